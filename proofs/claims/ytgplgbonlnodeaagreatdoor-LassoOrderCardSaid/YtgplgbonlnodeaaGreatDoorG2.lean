/-
  A value-level evaluator for Go functions; the functions of this cut by it; plain laws. Text G2.
-/
import Derived.Test.YtgplgbonlnodeaaGreatDoorG1
import Derived.Lib.UnsafeStr
import Derived.MapKept
import Derived.Below
import Derived.Orders
namespace Go.Vs
variable {P : Program} {G : Nat → Option (List PD)} {γ : Gh} {H : Hp} {w : World} {env : Env} {a : Act} {o : Oper}
structure Src (P:Program) (m:Mem) (w:World) (sz:Nat) (x:Value) (xs:List PD) (news:Array Value):Prop where
 len:∀w',(Builtin.lenOf x).run P w'= .ok xs.length w'
 cells:∀w',(∀ad,w'.cell? ad=w.cell? ad)→(Builtin.firstCells sz xs.length x).run P w'= .ok news w'
 rep:RepE m sz news xs
theorem RepE.one{m:Mem}{sz:Nat}{cs:Array Value}{es:List PD}(r:RepE m sz cs es)(hs:0<sz):∀v∈cs.toList,v.oneCell'=true:=by
 intro v hv
 obtain⟨k,hk⟩:=List.getElem?_of_mem hv
 have hk':cs[k]? =some v:=by simpa using hk
 have hlt:k<cs.size:=(Array.getElem?_eq_some_iff.1 hk').1
 obtain⟨r1,r2,r3⟩:=r
 have hi:k/sz<es.length:=by rw[Nat.div_lt_iff_lt_mul hs,←r1];exact hlt
 have he:=List.getElem?_eq_getElem hi
 obtain⟨e1,e2⟩:=r2 _ (List.getElem_mem hi)
 have hj:k%sz<(es[k/sz]).cells.length:=by rw[e1];exact Nat.mod_lt _ hs
 have hc:=List.getElem?_eq_getElem hj
 have q:=r3 _ _ _ _ he hc
 have ek:k/sz*sz+k%sz=k:=by rw[Nat.mul_comm];exact Nat.div_add_mod k sz
 rw[ek] at q
 have :cs.getD k undef=v:=by simp[Array.getD_eq_getD_getElem?,hk']
 rw[this] at q
 exact q.one (e2 _ (List.mem_of_getElem? hc))
theorem elems_src(I:Inv G γ H w){sz:Nat}(hs:0<sz){v:Value}{es:List PD}(h:RepP γ.mem v (.slice sz es)):∃news,Src P γ.mem w sz v es news:=by
 obtain⟨ad,cap,rfl,hcap,hne⟩:=slice_inv h
 by_cases h0:es=[]
 ·subst h0
  refine⟨#[],⟨fun w'=>by simp[Builtin.lenOf],fun w' _=>?_,by simp,fun e he=>by simp at he,fun i e j c he=>by simp at he⟩⟩
  cases ad<;>simp[Builtin.firstCells,loadCells,loadCellsFrom]
 ·obtain⟨b,off,vs,rfl,hsz,hone,hm,hr⟩:=hne h0
  refine⟨((List.range (es.length*sz)).map fun k=>vs (k/sz) (k%sz)).toArray,⟨fun w'=>by simp[Builtin.lenOf],fun w' hw'=>?_,?_⟩⟩
  ·refine run_firstCells_some (P:=P) w' sz es.length _ _ _ _ (by simp) (fun j v hj=>?_)
   have hlt:j<es.length*sz:=by have:=(List.getElem?_eq_some_iff.1 hj).1;simpa using this
   have hv:vs (j/sz) (j%sz)=v:=by simpa[hlt] using hj
   rw[Addr.add_lit,hw',←hv]
   have hi:j/sz<es.length:=by rw[Nat.div_lt_iff_lt_mul hs];exact hlt
   have:=I.mem _ _ _ (hm (j/sz) (j%sz) hi (Nat.mod_lt _ hs))
   have ej:off+j/sz*sz+j%sz=off+j:=by rw[Nat.add_assoc];congr 1;rw[Nat.mul_comm];exact Nat.div_add_mod j sz
   rw[ej] at this
   exact this
  ·refine⟨by simp,fun e he=>⟨hsz e he,hone e he⟩,fun i e j c he hc=>?_⟩
   have hi:i<es.length:=(List.getElem?_eq_some_iff.1 he).1
   have hj:j<sz:=by rw[←hsz e (List.mem_of_getElem? he)];exact(List.getElem?_eq_some_iff.1 hc).1
   have hlt:i*sz+j<es.length*sz:=by
    calc i*sz+j<i*sz+sz:=by omega
     _=(i+1)*sz:=by rw[Nat.add_mul,Nat.one_mul]
     _≤es.length*sz:=Nat.mul_le_mul_right _ hi
   have hd:(i*sz+j)/sz=i:=by rw[Nat.mul_comm,Nat.mul_add_div hs,Nat.div_eq_of_lt hj,Nat.add_zero]
   have hmm:(i*sz+j)%sz=j:=by rw[Nat.add_comm,Nat.add_mul_mod_self_right,Nat.mod_eq_of_lt hj]
   have ee:(((List.range (es.length*sz)).map fun k=>vs (k/sz) (k%sz)).toArray).getD (i*sz+j) undef=vs i j:=by
    simp[Array.getD_eq_getD_getElem?,hlt,hd,hmm]
   rw[ee]
   exact hr i _ _ c he hc
theorem src_of(I:Inv G γ H w){sz:Nat}(hs:0<sz){v:Value}{d:D}(r:RepD γ v d){xs:List PD}(h:srcD sz d=some xs):
    (∃news,Src P γ.mem w sz v xs news)∧((∃s,v= .string s)∨∃ad n c,v= .slice ad n c):=by
 unfold srcD at h
 split at h
 ·rename_i s
  split at h
  ·rename_i h1
   subst h1
   cases h
   rw[r.p_inv.str_inv]
   refine⟨⟨(s.map fun b=>Value.int .u8 b.toNat).toArray,⟨fun w'=>?_,fun w' _=>?_,by simp,fun e he=>?_,fun i e j c he hc=>?_⟩⟩,.inl ⟨_,rfl⟩⟩
   ·simp[Builtin.lenOf,ByteArray.size]
   ·have e:(⟨s.toArray⟩:ByteArray).extract 0 (List.map (fun b:UInt8=>PD.int IntKind.u8 (b.toNat:Int)) s).length=⟨s.toArray⟩:=by
     apply ByteArray.ext
     rw[ByteArray.data_extract]
     simp
    simp only[Builtin.firstCells,e]
    simp
   ·obtain⟨b,_,rfl⟩:=List.mem_map.1 he
    exact⟨rfl,fun c hc=>by simp[PD.cells] at hc;subst hc;rfl⟩
   ·simp only[List.getElem?_map,Option.map_eq_some_iff] at he
    obtain⟨b,hb,rfl⟩:=he
    match j with
    | 0=>
     simp only[PD.cells,List.getElem?_cons_zero,Option.some.injEq] at hc
     subst hc
     have :((s.map fun b=>Value.int .u8 b.toNat).toArray).getD (i*1+0) undef= .int .u8 b.toNat:=by simp[Array.getD_eq_getD_getElem?,hb]
     rw[this];exact .int _ _
    |j+1=>simp[PD.cells] at hc
  ·cases h
 ·cases h
  have h:=r.p_inv.nils_inv
  subst h
  refine⟨⟨#[],⟨fun w'=>by simp[Builtin.lenOf],fun w' _=>by simp[Builtin.firstCells],by simp,fun e he=>by simp at he,fun i e j c he=>by simp at he⟩⟩,.inr ⟨_,_,_,rfl⟩⟩
 ·split at h
  ·rename_i sz' es hel
   split at h
   ·rename_i hsz
    subst hsz
    cases h
    have q:=elems?_rep r hel
    refine⟨elems_src I hs q,.inr ?_⟩
    obtain⟨ad,cap,hv,_⟩:=slice_inv q
    exact⟨_,_,_,hv⟩
   ·cases h
  ·cases h
theorem chunks_get{sz:Nat}(hs:0<sz):∀(n:Nat) (ps:List PD),ps.length=n*sz→(∀p∈ps,p.one=true)→(chunks sz n ps).length=n∧∀(i:Nat) e,(chunks sz n ps)[i]? =some e→e.cells=(ps.drop (i*sz)).take sz
 | 0,ps,_,_=>⟨rfl,fun i e h=>by simp[chunks] at h⟩
 |n+1,ps,hl,h1=>by
  have hl2:(ps.drop sz).length=n*sz:=by
   rw[List.length_drop,hl,Nat.add_mul,Nat.one_mul];omega
  obtain⟨q1,q2⟩:=chunks_get hs n (ps.drop sz) hl2 (fun p hp=>h1 p (List.mem_of_mem_drop hp))
  have hge:sz≤ps.length:=by rw[hl,Nat.add_mul,Nat.one_mul];omega
  refine⟨by simp only[chunks,List.length_cons,q1],fun i e he=>?_⟩
  cases i with
  |zero=>
   simp only[chunks,List.getElem?_cons_zero,Option.some.injEq] at he
   subst he
   rw[Nat.zero_mul,List.drop_zero]
   split
   ·rename_i c r
    have hc:=h1 c (by simp)
    have :c.cells=[c]:=by cases c<;>first |rfl |cases hc
    rw[this];rfl
   ·rfl
  |succ i=>
   simp only[chunks,List.getElem?_cons_succ] at he
   rw[q2 i e he,List.drop_drop]
   congr 2
   rw[Nat.add_mul,Nat.one_mul,Nat.add_comm]
theorem asPDL_one:∀{ds:List D} {ps:List PD},D.asPDL ds=some ps→(∀d∈ds,d.one=true)→∀p∈ps,p.one=true:=by
 intro ds ps h h1 p hp
 obtain⟨k,hk⟩:=List.getElem?_of_mem hp
 obtain⟨_,h3⟩:=sealL_get h
 obtain⟨d,a1,a2⟩:=h3 k p hk
 exact seal_one a2 (h1 d (List.mem_of_getElem? a1))
theorem mread_rep(I:Inv G γ H w){i off n sz b:Nat}(hs:0<sz)(hb:γ.boxes[i]? =some b){xs:List PD}(h:mread H i off n sz=some xs):
    xs.length=n∧∃news:Array Value,RepE γ.mem sz news xs∧∀j v,news[j]? =some v→w.cell? ⟨b,off+j,none⟩=some v:=by
 unfold mread at h
 split at h
 ·rename_i cs hcs
  split at h
  ·rename_i hfit
   obtain⟨hm,hfit⟩:=hfit
   obtain⟨ps,hps,rfl⟩:=Option.map_eq_some_iff.1 h
   obtain⟨vs,T,fr,q1,q2,q3,_⟩:=I.box i b cs hb hcs
   rw[viewC_of hm] at q1
   have q3:=q3 hm
   have hsl:(sub cs off (off+n*sz)).length=n*sz:=by rw[sub_length _ _ _ hfit];omega
   obtain⟨l1,l2⟩:=sealL_get hps
   have hpl:ps.length=n*sz:=l1.trans hsl
   have hone:=asPDL_one hps (fun d hd=>q3 d (sub_mem hd))
   obtain⟨c1,c2⟩:=chunks_get hs n ps hpl hone
   refine⟨c1,((List.range (n*sz)).map fun k=>vs.getD (off+k) undef).toArray,⟨by simp[c1],fun e he=>?_,fun k e j c hk hc=>?_⟩,fun j v hj=>?_⟩
   ·obtain⟨k,hk⟩:=List.getElem?_of_mem he
    have hkn:k<n:=by rw[←c1];exact(List.getElem?_eq_some_iff.1 hk).1
    have hc:=c2 k e hk
    have hle:k*sz+sz≤n*sz:=by
     calc k*sz+sz=(k+1)*sz:=by rw[Nat.add_mul,Nat.one_mul]
      _≤n*sz:=Nat.mul_le_mul_right _ hkn
    refine⟨by rw[hc];simp;omega,fun c hcm=>?_⟩
    rw[hc] at hcm
    exact hone c (List.mem_of_mem_drop (List.mem_of_mem_take hcm))
   ·have hkn:k<n:=by rw[←c1];exact(List.getElem?_eq_some_iff.1 hk).1
    have hcc:=c2 k e hk
    rw[hcc,List.getElem?_take] at hc
    split at hc
    ·rename_i hj
     rw[List.getElem?_drop] at hc
     have hlt:k*sz+j<n*sz:=by
      calc k*sz+j<k*sz+sz:=by omega
       _=(k+1)*sz:=by rw[Nat.add_mul,Nat.one_mul]
       _≤n*sz:=Nat.mul_le_mul_right _ hkn
     obtain⟨d,a1,a2⟩:=l2 (k*sz+j) c hc
     rw[sub_get,if_pos (by omega)] at a1
     have hr:=q2.2 _ d a1
     have e1:(((List.range (n*sz)).map fun k=>vs.getD (off+k) undef).toArray).getD (k*sz+j) undef=vs.getD (off+(k*sz+j)) undef:=by
      simp[Array.getD_eq_getD_getElem?,hlt]
     rw[e1]
     exact seal_rep hr a2
    ·cases hc
   ·have hlt:j<n*sz:=by have:=(Array.getElem?_eq_some_iff.1 hj).1;simpa using this
    have hv:vs.getD (off+j) undef=v:=by simpa[hlt] using hj
    have hvs:off+j<vs.size:=by have:=q2.1;omega
    rw[←hv]
    simp[World.cell?,q1,hvs,Array.getD_eq_getD_getElem?]
  ·cases h
 ·cases h
theorem msl_src(I:Inv G γ H w){i off n sz b c:Nat}(hs:0<sz)(hb:γ.boxes[i]? =some b){xs:List PD}(h:mread H i off n sz=some xs):∃news,Src P γ.mem w sz (.slice (some ⟨b,off,none⟩) n c) xs news:=by
 obtain⟨hl,news,h1,h2⟩:=mread_rep I hs hb h
 refine⟨news,⟨fun w'=>by simp[Builtin.lenOf,hl],fun w' hw'=>?_,h1⟩⟩
 refine run_firstCells_some (P:=P) w' sz xs.length _ _ _ _ (by simpa using h1.1) (fun j v hj=>?_)
 rw[Addr.add_lit,hw']
 exact h2 j v (by simpa using hj)
theorem srcH_of(I:Inv G γ H w){sz:Nat}(hs:0<sz){v:Value}{d:D}(r:RepD γ v d){xs:List PD}(h:srcH H sz d=some xs):
    (∃news,Src P γ.mem w sz v xs news)∧((∃s,v= .string s)∨∃ad n c,v= .slice ad n c):=by
 unfold srcH at h
 split at h
 ·rename_i i off n cap sz'
  split at h
  ·rename_i hsz
   subst hsz
   cases r with
   |msl _ _ _ _ _ b c hb hc hcap=>exact⟨msl_src I hs hb h,.inr ⟨_,_,_,rfl⟩⟩
  ·cases h
 ·rename_i i e n sz'
  split at h
  ·rename_i hsz
   subst hsz
   cases r with
   |gsl _ _ _ _ b c hb hc hm hty=>exact⟨msl_src I hs hb h,.inr ⟨_,_,_,rfl⟩⟩
  ·cases h
 ·exact src_of I hs r h
section
variable {t u ty e : TypeId} {i : TypeInfo} {z : Value} {du : TypeDesc} (ht : P.underlying t = some (.slice e)) (hu : P.underlying u = some du) (hdu : (∃ e', du = .slice e') ∨ du = .string) (hi : P.info? e = some i) (hz : i.zero = some z)
 {x:Value} {xs:List PD} {news:Array Value} {m:Mem} (S:Src P m w i.size x xs news)
include ht hu hdu hi S
theorem run_append_zero(h0:xs=[])(base:Option Addr)(n cap:Nat)(hc:n≤cap):(Builtin.append_ #[t,u] ty #[.slice base n cap,x]).run P w= .ok (.slice base n cap) w:=by
 subst h0
 have hn:news= #[]:=by have:=S.rep.1;simpa using this
 subst hn
 have hl:=S.len w
 have hcs:=S.cells w (fun _=>rfl)
 simp only[List.length_nil] at hl hcs
 rcases hdu with⟨e',rfl⟩ |rfl<;>cases base<;>simp[Builtin.append_,run_underlying ht,run_underlying hu,sizeOf,typeInfo,hi,hl,hc,hcs,storeCells]
theorem run_append_place(g n cap:Nat)(cur:Array Value)(fr:Nat×Nat)(hg:w.heap[g]? =some (.cells cur e fr))(hun:clear fr (n*i.size) cur.size)(hroom:n+xs.length≤cap)(hfit:n*i.size+news.size≤cur.size)(hs:0<i.size):
    (Builtin.append_ #[t,u] ty #[.slice (some ⟨g,0,none⟩) n cap,x]).run P w=
     .ok (.slice (some ⟨g,0,none⟩) (n+xs.length) cap) (w.setRow g (cur.toList.take (n*i.size)++news.toList++cur.toList.drop (n*i.size+news.size)).toArray):=by
 have hl:=S.len w
 have hcs:=S.cells w (fun _=>rfl)
 have hst:=run_storeCells_fr (P:=P) g (n*i.size) e fr news.toList 0 cur w hg (by simpa using hun) (by simpa using hfit) (S.rep.one hs)
 simp only[Nat.add_zero,Array.length_toList] at hst
 rcases hdu with⟨e',rfl⟩ |rfl<;>simp[Builtin.append_,run_underlying ht,run_underlying hu,sizeOf,typeInfo,hi,hl,hroom,hcs,Addr.add_lit,hst]
include hz
theorem run_append_new(base:Option Addr)(n cap:Nat)(olds:Array Value)(hold:∀w',(∀ad,w'.cell? ad=w.cell? ad)→(Builtin.firstCells i.size n (.slice base n cap)).run P w'= .ok olds w')
    (hno:cap<n+xs.length) (h63:((n+xs.length:Nat):Int)≤9223372036854775807) (hb:(n+xs.length)*i.bytes≤140737488355328):
    (Builtin.append_ #[t,u] ty #[.slice base n cap,x]).run P w=
     .ok (.slice (some ⟨w.heap.size,0,none⟩) (n+xs.length) (grownCap w (n+xs.length) cap e))
      (w.drew.alloc (.cells (olds++news++Builtin.zeroCells z.cells (grownCap w (n+xs.length) cap e-(n+xs.length))) e)):=by
 have hl:=S.len w
 have hcs:=S.cells w.drew (fun _=>rfl)
 have hos:=hold w.drew (fun _=>rfl)
 have hn:¬(n+xs.length≤cap):=by omega
 have h63':¬(9223372036854775807<((n:Int)+(xs.length:Int))):=by omega
 have h48':¬(281474976710656<Builtin.nextslicecap (n+xs.length) cap*i.bytes):=by have:=growslice_fits hno hb;omega
 rcases hdu with⟨e',rfl⟩ |rfl<;>simp[Builtin.append_,run_underlying ht,run_underlying hu,sizeOf,typeInfo,zeroValue,hi,hz,hl,hn,h63',h48',Question.forced,hos,hcs,newRow,grownCap]
end
end Go.Vs
namespace Go.Vs
variable {P : Program} {G : Nat → Option (List PD)} {γ : Gh} {H : Hp} {w : World} {env : Env} {a : Act} {o : Oper}
theorem RepE.append{m:Mem}{sz:Nat}{c1 c2:Array Value}{e1 e2:List PD}(r:RepE m sz c1 e1)(q:RepE m sz c2 e2):RepE m sz (c1++c2) (e1++e2):=by
 obtain⟨r1,r2,r3⟩:=r
 obtain⟨q1,q2,q3⟩:=q
 refine⟨by simp[r1,q1,Nat.add_mul],fun e he=>?_,fun i e j c he hc=>?_⟩
 ·rcases List.mem_append.1 he with h |h
  ·exact r2 e h
  ·exact q2 e h
 ·by_cases hi:i<e1.length
  ·rw[List.getElem?_append_left hi] at he
   have hj:j<sz:=by rw[←(r2 e (List.mem_of_getElem? he)).1];exact(List.getElem?_eq_some_iff.1 hc).1
   have hlt:i*sz+j<c1.size:=by
    rw[r1]
    calc i*sz+j<i*sz+sz:=by omega
     _=(i+1)*sz:=by rw[Nat.add_mul,Nat.one_mul]
     _≤e1.length*sz:=Nat.mul_le_mul_right _ hi
   have:=r3 i e j c he hc
   have ee:(c1++c2).getD (i*sz+j) undef=c1.getD (i*sz+j) undef:=by
    simp[Array.getD_eq_getD_getElem?,Array.getElem?_append,hlt]
   rw[ee];exact this
  ·rw[List.getElem?_append_right (by omega)] at he
   have hge:c1.size≤i*sz+j:=by
    rw[r1]
    calc e1.length*sz≤i*sz:=Nat.mul_le_mul_right _ (by omega)
     _≤i*sz+j:=by omega
   have:=q3 _ e j c he hc
   have e3:i*sz+j-c1.size=(i-e1.length)*sz+j:=by
    rw[r1,Nat.sub_mul]
    have :e1.length*sz≤i*sz:=Nat.mul_le_mul_right _ (by omega)
    omega
   have ee:(c1++c2).getD (i*sz+j) undef=c2.getD ((i-e1.length)*sz+j) undef:=by
    simp only[Array.getD_eq_getD_getElem?]
    rw[Array.getElem?_append_right hge,e3]
   rw[ee];exact this
theorem repE_cells{m:Mem}{b cap sz:Nat}{es:List PD}(h:RepP m (.slice (some ⟨b,0,none⟩) es.length cap) (.slice sz es)){pre:Array Value}(hp:pre.size=es.length*sz)(hm:∀o v,o<es.length*sz→m b o=some v→pre[o]? =some v):RepE m sz pre es:=by
 obtain⟨ad,cap',hv,_,hne⟩:=slice_inv h
 cases hv
 refine⟨hp,fun e he=>?_,fun i e j c he hc=>?_⟩
 ·obtain⟨b',o',vs,hb,h1,h2,_⟩:=hne (fun e0=>by subst e0;simp at he)
  exact⟨h1 e he,h2 e he⟩
 ·obtain⟨b',o',vs,hb,h1,h2,h3,h4⟩:=hne (fun e0=>by subst e0;simp at he)
  cases hb
  have hi:i<es.length:=(List.getElem?_eq_some_iff.1 he).1
  have hj:j<sz:=by rw[←h1 e (List.mem_of_getElem? he)];exact(List.getElem?_eq_some_iff.1 hc).1
  have hlt:i*sz+j<es.length*sz:=by
   calc i*sz+j<i*sz+sz:=by omega
    _=(i+1)*sz:=by rw[Nat.add_mul,Nat.one_mul]
    _≤es.length*sz:=Nat.mul_le_mul_right _ hi
  have hc':=hm _ _ hlt (by have:=h3 i j hi hj;rwa [Nat.zero_add] at this)
  have ee:pre.getD (i*sz+j) undef=vs i j:=by simp[Array.getD_eq_getD_getElem?,hc']
  rw[ee]
  exact h4 i e j c he hc
section
variable {t u ty e : TypeId} {i : TypeInfo} {z : Value} {du : TypeDesc} (ht : P.underlying t = some (.slice e)) (hu : P.underlying u = some du) (hdu : (∃ e', du = .slice e') ∨ du = .string) (hi : P.info? e = some i) (hz : i.zero = some z)
 (hzs:z.cells.size=i.size) (hs:0<i.size) {x:Value} {xs:List PD} {news:Array Value} (S:Src P γ.mem w i.size x xs news)
include ht hu hdu hi hz hzs hs S
theorem append_core(I:Inv G γ H w){tk:Nat}{row:Row}{es:List PD}{r:Option (Nat×Nat)}(h1:γ.rows[tk]? =some row)(h2:H.tk[tk]? =some es.length)(he:row.e=e)(hsz:row.sz=i.size)(hr:row.st es.length=some r)
    (hv:RepP γ.mem (rowVal r es.length) (.slice i.size es)) (hroom:roomy (es.length+xs.length) i.bytes=true):
    ∃v' w' γ',(Builtin.append_ #[t,u] ty #[rowVal r es.length,x]).run P w= .ok v' w'∧γ.le γ'∧Frame γ H w γ' {H with tk:=H.tk.set tk (es.length+xs.length)} w'∧
     Inv G γ' {H with tk:=H.tk.set tk (es.length+xs.length)} w'∧RepD γ' v' (.tsl tk e i.size (es++xs)):=by
 obtain⟨r',hr',hok⟩:=I.row tk row es.length h1 h2
 rw[hr] at hr'
 cases hr'
 have hroom':es.length+xs.length≤140737488355328∧(es.length+xs.length)*i.bytes≤140737488355328:=by simpa[roomy] using hroom
 by_cases h0:xs=[]
 ·
  have hset:H.tk.set tk (es.length+xs.length)=H.tk:=by
   subst h0
   apply List.ext_getElem?
   intro k
   by_cases hk:tk=k
   ·subst hk
    have hlt:=(List.getElem?_eq_some_iff.1 h2).1
    rw[List.getElem?_set_self hlt,h2];rfl
   ·rw[List.getElem?_set_ne hk]
  rw[hset]
  have hrun:(Builtin.append_ #[t,u] ty #[rowVal r es.length,x]).run P w= .ok (rowVal r es.length) w:=by
   cases r with
   |none=>exact run_append_zero ht hu hdu hi S h0 none 0 0 (Nat.le_refl _)
   |some bc=>exact run_append_zero ht hu hdu hi S h0 _ _ _ hok.1.1
  refine⟨_,w,γ,hrun,.refl γ,.refl γ H w,I,?_⟩
  subst h0
  rw[List.append_nil]
  exact .tsl _ tk e i.size es row r h1 he hsz hv hr rfl
 ·have hpos:0<xs.length:=List.length_pos_iff.2 h0
  have hml:es.length+xs.length≤maxLen:=by simp only[maxLen];omega
  have hnews:=S.rep.1
  have hmem_row:∀γ':Gh,∀(b cap:Nat) (cells:Array Value),γ'=γ.grow tk row (es.length+xs.length) b cap cells→γ.le γ'→es.length+xs.length≤cap→RepE γ.mem i.size (cells.extract 0 ((es.length+xs.length)*i.size)) (es++xs)→
      RepD γ' (.slice (some ⟨b,0,none⟩) (es.length+xs.length) cap) (.tsl tk e i.size (es++xs)):=by
   intro γ' b cap cells hγ hle hcap hre
   subst hγ
   have htl:tk<γ.rows.length:=(List.getElem?_eq_some_iff.1 h1).1
   have hre':=(hre.mono hle.mem).slice (b:=b) (cap:=cap) (by simpa using hcap) (fun o ho=>by
    have ho:o<(es.length+xs.length)*i.size:=by simpa using ho
    simp only[Gh.grow,if_true,hsz]
    rw[if_pos ho,Array.getElem?_extract]
    simp
    intro h
    have hsz:=hre.1
    simp at hsz
    omega)
   refine .tsl _ tk e i.size (es++xs) (row.grow (es.length+xs.length) b cap) (some (b,cap)) (by simp[Gh.grow,htl]) he hsz (by simpa using hre') (by simp[Row.grow]) (by simp[rowVal])
  have fresh:∀(base:Option Addr) (n cap:Nat),rowVal r es.length= .slice base n cap→n=es.length→cap<es.length+xs.length→
      ∃v' w' γ',(Builtin.append_ #[t,u] ty #[rowVal r es.length,x]).run P w= .ok v' w'∧γ.le γ'∧Frame γ H w γ' {H with tk:=H.tk.set tk (es.length+xs.length)} w'∧
       Inv G γ' {H with tk:=H.tk.set tk (es.length+xs.length)} w'∧RepD γ' v' (.tsl tk e i.size (es++xs)):=by
   intro base n cap hval hn hcap
   subst hn
   rw[hval] at hv⊢
   obtain⟨olds,So⟩:=elems_src (P:=P) I hs hv
   have hrun:=run_append_new (ty:=ty) ht hu hdu hi hz S base es.length cap olds (fun w' hw'=>So.cells w' hw') hcap (by omega) hroom'.2
   have hge:=grownCap_ge w (es.length+xs.length) cap e
   have hcm:=grownCap_le_maxLen w (es.length+xs.length) cap e hml
   have hsize:(olds++news++Builtin.zeroCells z.cells (grownCap w (es.length+xs.length) cap e-(es.length+xs.length))).size=grownCap w (es.length+xs.length) cap e*row.sz:=by
    rw[hsz]
    simp only[Array.size_append,size_zeroCells,hzs,So.rep.1,hnews,←Nat.add_mul]
    congr 1;omega
   have hw1:(w.drew.alloc (.cells (olds++news++Builtin.zeroCells z.cells (grownCap w (es.length+xs.length) cap e-(es.length+xs.length))) e)).heap[w.heap.size]? =
       some (.cells (olds++news++Builtin.zeroCells z.cells (grownCap w (es.length+xs.length) cap e-(es.length+xs.length))) row.e (0,0)):=by
    rw[he]
    have:=heap_alloc w.drew (.cells (olds++news++Builtin.zeroCells z.cells (grownCap w (es.length+xs.length) cap e-(es.length+xs.length))) e) w.heap.size
    rw[this];exact if_pos rfl
   obtain⟨b1,b2,b3⟩:=I.rowStep h1 h2 (b:=w.heap.size) (cap:=grownCap w (es.length+xs.length) cap e) (f':=es.length+xs.length) (by omega) hge hcm hsize hw1 (fun k hk=>by simp)
    (fun c hc=>by rw[heap_alloc];exact if_neg hc) (fun hb=>by have:=I.lt_of_box hb;omega) (fun o v hm=>by have:=I.lt_of_mem hm;omega) (fun t' _ hf=>by have:=I.lt_of_free hf;omega) (.inl rfl) (fun x hx=>by have:=I.lt_of_tys hx;omega) ⟨Nat.zero_le _,Nat.le_refl _⟩ rfl rfl rfl (by simp)
   refine⟨_,_,_,hrun,b1,b2,b3,hmem_row _ _ _ _ rfl b1 hge ?_⟩
   have hex:(olds++news++Builtin.zeroCells z.cells (grownCap w (es.length+xs.length) cap e-(es.length+xs.length))).extract 0 ((es.length+xs.length)*i.size)=olds++news:=by
    have :(es.length+xs.length)*i.size=(olds++news).size:=by simp[So.rep.1,hnews,Nat.add_mul]
    rw[this]
    apply Array.ext'
    simp[List.take_of_length_le]
   rw[hex]
   exact So.rep.append S.rep
  cases r with
  |none=>
   have hn0:es.length=0:=hok
   exact fresh none 0 0 rfl hn0.symm (by omega)
  |some bc=>
   obtain⟨b,cap⟩:=bc
   obtain⟨⟨hle,htys⟩,hfr⟩:=hok
   by_cases hfit:es.length+xs.length≤cap
   ·obtain⟨cur,fr,q1,q0,q2,q3,q4,q5⟩:=hfr (by omega)
    rw[hsz] at q2 q4
    have hcur:es.length*i.size+news.size≤cur.size:=by
     rw[hnews,q2,←Nat.add_mul];exact Nat.mul_le_mul_right _ hfit
    rw[he] at q1
    rw[hsz] at q0
    have hrun:=run_append_place (ty:=ty) ht hu hdu hi S b es.length cap cur fr q1 q0 hfit hcur hs
    have hold:∀o v,γ.mem b o=some v→o<es.length*i.size∧cur[o]? =some v:=by
     intro o v hm
     have hlt:o<es.length*i.size:=by
      rcases Nat.lt_or_ge o (es.length*i.size) with h |h
      ·exact h
      ·rw[q4 o h] at hm;cases hm
     have:=I.mem b o v hm
     simp only[World.cell?,q1] at this
     exact⟨hlt,by simpa using this⟩
    have hnew:∀o,o<es.length*i.size→(cur.toList.take (es.length*i.size)++news.toList++cur.toList.drop (es.length*i.size+news.size)).toArray[o]? =cur[o]?:=by
     intro o ho
     have h1:o<(cur.toList.take (es.length*i.size)).length:=by simp;omega
     simp only[List.getElem?_toArray,List.append_assoc]
     rw[List.getElem?_append_left h1,List.getElem?_take,if_pos ho]
     simp
    have hsz2:(cur.toList.take (es.length*i.size)++news.toList++cur.toList.drop (es.length*i.size+news.size)).toArray.size=cap*row.sz:=by
     rw[hsz,←q2];simp;omega
    have hlt2:es.length*i.size≤(es.length+xs.length)*row.sz:=by rw[hsz,Nat.add_mul];omega
    obtain⟨b1,b2,b3⟩:=I.rowStep h1 h2 (b:=b) (cap:=cap) (f':=es.length+xs.length) (fr:=fr) (by omega) hfit q3 hsz2 (by rw[he];exact setRow_heap w b cur _ e fr q1) (fun k hk hk2=>q0 k (by rw[hsz,Nat.add_mul] at hk;omega) (by rw[hsz2,hsz,←q2] at hk2;exact hk2))
     (fun c hc=>setRow_other w b c _ hc) q5 (fun o v hm=>by
      obtain⟨c1,c2⟩:=hold o v hm
      exact⟨by omega,by rw[hnew o c1];exact c2⟩) (fun t' hne hf=>hne (I.free t' tk b hf ⟨row,es.length,cap,h1,h2,hr,by omega⟩)) (.inr ⟨row,es.length,cap,h1,h2,hr,by omega⟩) (fun x hx=>by rw[htys] at hx;exact(Option.some.inj hx).symm) (by
     obtain⟨us,fru,z1,z2,z3⟩:=I.tysE htys
     rw[he,q1] at z1;cases z1;exact z3) rfl rfl rfl (by simp[World.setRow])
    refine⟨_,_,_,hrun,b1,b2,b3,hmem_row _ _ _ _ rfl b1 hfit ?_⟩
    have hex:((cur.toList.take (es.length*i.size)++news.toList++cur.toList.drop (es.length*i.size+news.size)).toArray).extract 0 ((es.length+xs.length)*i.size)=(cur.toList.take (es.length*i.size)).toArray++news:=by
     have hl:(cur.toList.take (es.length*i.size)).length=es.length*i.size:=by simp;omega
     have :(es.length+xs.length)*i.size=((cur.toList.take (es.length*i.size))++news.toList).length:=by simp only[List.length_append,hl,Array.length_toList,hnews,Nat.add_mul]
     apply Array.ext'
     simp only[Array.toList_extract,List.extract_eq_take_drop,List.drop_zero,Nat.sub_zero,Array.toList_append]
     rw[this]
     exact List.take_left
    rw[hex]
    refine(repE_cells hv ?_ (fun o v ho hm=>?_)).append S.rep
    ·simp;omega
    ·obtain⟨c1,c2⟩:=hold o v hm
     simp only[List.getElem?_toArray,List.getElem?_take,if_pos c1]
     simpa using c2
   ·exact fresh _ _ cap rfl rfl (by omega)
end
theorem length_set_append(l:List Nat)(x y:Nat):(l++[x]).set l.length y=l++[y]:=by simp
theorem done_append(I:Inv G γ H w)(E:EnvRep γ env a.tmps){t u e:TypeId}{s x:Operand}{s' x':Opd}{i:TypeInfo}{z:Value}{du:TypeDesc}(ho:o.op= .call {callee:=.builtin .append,args:=#[s,x],argTypes:=#[t,u]})
    (ht:P.underlying t=some (.slice e)) (hu:P.underlying u=some du) (hdu:(∃e',du= .slice e')∨du= .string) (hi:P.info? e=some i) (hz:i.zero=some z) (hzs:z.cells.size=i.size) (hsp:0<i.size)
    (hs:opdOf s=some s') (hx:opdOf x=some x') {d:D} {H':Hp} (he:evK G env H (.append e i.size i.bytes s' x')=some (d,H')):Done P G γ H w a o d H':=by
 have hsr:=opdOf_rep E hs
 have hxr:=opdOf_rep E hx
 simp only[evK] at he
 split at he
 ·rename_i xs hxs
  obtain⟨⟨news,S⟩,_⟩:=srcH_of (P:=P) I hsp hxr hxs
  have fin:∀v' w',(Builtin.append_ #[t,u] o.type #[a.eval s,a.eval x]).run P w= .ok v' w'→(execOp a.eval o).run P w= .ok (.value v') w':=by
   intro v' w' h
   simp[execOp,ho,resolve,invoke,builtin,h]
  unfold appendD at he
  split at he
  ·
   rename_i hn
   split at he
   ·rename_i hroom
    cases he
    rw[hn] at hsr
    have hv:=hsr.p_inv.nils_inv
    let row:Row:=⟨e,i.size,fun n=>if n=0 then some none else none⟩
    obtain⟨b1,b2,b3⟩:=I.addTok row 0 none rfl (fun n x hx=>by
     simp only[row] at hx
     split at hx
     ·omega
     ·cases hx) rfl (fun _ _ h=>by cases h) (fun n b cap hx=>by
     simp only[row] at hx
     split at hx<;>cases hx)
    obtain⟨v',w',γ',c1,c2,c3,c4,c5⟩:=append_core (ty:=o.type) ht hu hdu hi hz hzs hsp (γ:={γ with rows:=γ.rows++[row]}) S b3 (tk:=H.tk.length) (row:=row) (es:=[]) (r:=none)
     (by show(γ.rows++[row])[H.tk.length]? =_;rw[←I.lenT];simp) (by simp) rfl rfl rfl (.sl0 _ _ _) (by simpa using hroom)
    simp only[List.length_nil,Nat.zero_add,length_set_append,List.nil_append] at c3 c4 c5
    refine⟨v',w',γ',.inl (fin v' w' ?_),b1.trans c2,b2.trans b1.base c3,c4,c5⟩
    rw[hv];exact c1
   ·cases he
  ·rename_i e' sz' es hn
   split at he
   ·rename_i hc
    obtain⟨rfl,rfl,hroom⟩:=hc
    cases he
    rw[hn] at hsr
    generalize hev:a.eval s=v at hsr
    cases hsr with
    |fsl b n e sz es' hbase hty hlen hrep=>
     subst hlen
     let row:Row:=⟨e',i.size,fun n=>if n=es.length then some (some (b,es.length)) else none⟩
     obtain⟨b1,b2,b3⟩:=I.addTok row es.length (some (b,es.length)) (by simp[row]) (fun n x hx=>by
      simp only[row] at hx
      split at hx
      ·omega
      ·cases hx) ⟨⟨Nat.le_refl _,hty⟩,fun h=>by omega⟩ (fun _ _ h=>by cases h;rfl) (fun n b' cap hx=>by
      simp only[row] at hx
      split at hx
      ·cases hx;exact hbase
      ·cases hx)
     obtain⟨v',w',γ',c1,c2,c3,c4,c5⟩:=append_core (ty:=o.type) ht hu hdu hi hz hzs hsp (γ:={γ with rows:=γ.rows++[row]}) S b3 (tk:=H.tk.length) (row:=row) (es:=es) (r:=some (b,es.length))
      (by show(γ.rows++[row])[H.tk.length]? =_;rw[←I.lenT];simp) (by simp) rfl rfl (by simp[row]) hrep hroom
     simp only[length_set_append] at c3 c4 c5
     refine⟨v',w',γ',.inl (fin v' w' ?_),b1.trans c2,b2.trans b1.base c3,c4,c5⟩
     rw[hev];exact c1
   ·cases he
  ·rename_i tk e' sz' es hn
   split at he
   ·rename_i hc
    obtain⟨rfl,rfl,htk,hroom⟩:=hc
    cases he
    rw[hn] at hsr
    generalize hev:a.eval s=v at hsr
    cases hsr with
    |tsl _ _ _ _ _ row r h1 h2 h3 h4 h5 h6=>
     subst h6
     obtain⟨v',w',γ',c1,c2,c3,c4,c5⟩:=append_core (ty:=o.type) ht hu hdu hi hz hzs hsp S I h1 htk h2 h3 h5 h4 hroom
     refine⟨v',w',γ',.inl (fin v' w' ?_),c2,c3,c4,c5⟩
     rw[hev];exact c1
   ·cases he
  ·cases he
 ·cases he
theorem bytesOf_some:∀{xs:List PD} {s:List UInt8},bytesOf xs=some s→∃ns:List Int,xs=ns.map (fun n=>PD.int .u8 n)∧s=ns.map fun n=>UInt8.ofNat n.toNat:=by
 intro xs
 induction xs with
 |nil=>intro s h;simp only[bytesOf] at h;cases h;exact⟨[],rfl,rfl⟩
 |cons x r ih=>
  intro s h
  unfold bytesOf at h
  split at h
  ·rename_i e;cases e
  ·rename_i n r' e
   cases e
   obtain⟨s',hs,rfl⟩:=Option.map_eq_some_iff.1 h
   obtain⟨ns,rfl,rfl⟩:=ih hs
   exact⟨n::ns,rfl,rfl⟩
  ·cases h
theorem done_toStr(I:Inv G γ H w)(E:EnvRep γ env a.tmps){s t e:TypeId}{x:Operand}{x':Opd}(ho:o.op= .convert s t x)(hs:P.underlying s=some (.slice e))(hel:P.underlying e=some (.int .u8))(ht:P.underlying t=some .string)(hx:opdOf x=some x')
    {d:D} {H':Hp} (he:evK G env H (.toStr x')=some (d,H')):Done P G γ H w a o d H':=by
 have hxr:=opdOf_rep E hx
 simp only[evK] at he
 split at he
 ·rename_i xs hxs
  obtain⟨str,hstr,hh⟩:=Option.map_eq_some_iff.1 he
  cases hh
  obtain⟨ns,rfl,rfl⟩:=bytesOf_some hstr
  refine .same I (v:=.string ⟨(ns.map fun n=>UInt8.ofNat n.toNat).toArray⟩) ?_ (.p _ _ (.str _))
  have nilcase:∀ad l c,a.eval x= .slice ad l c→ns=[]→l=0→(execOp a.eval o).run P w= .ok (.value (.string ⟨(ns.map fun n=>UInt8.ofNat n.toNat).toArray⟩)) w:=by
   intro ad l c hv hns hl
   subst hns;subst hl
   cases ad with
   |none=>
    have:=run_convert_bytes_nil (P:=P) w s e hs hel 0 c t ht
    simp[execOp,ho,hv,this,ByteArray.empty,ByteArray.emptyWithCapacity]
    rfl
   |some ad=>
    have:=run_convert_bytes_back (P:=P) w s t e ad c [] hs hel ht (fun j hj=>by simp at hj)
    simp[execOp,ho,hv] at this⊢
    simp[this]
  unfold srcBH at hxs
  split at hxs
  ·rename_i i off n cap sz' hn
   split at hxs
   ·rename_i hsz
    subst hsz
    rw[hn] at hxr
    generalize hv:a.eval x=v at hxr
    cases hxr with
    |msl _ _ _ _ _ b c hb hc hcap=>
     obtain⟨hl,news,h1,h2⟩:=mread_rep I (by omega) hb hxs
     have hl:ns.length=n:=by simpa using hl
     by_cases h0:ns=[]
     ·exact nilcase _ _ _ hv h0 (by rw[←hl,h0];rfl)
     ·have hget:∀k,k<ns.length→w.cell? ⟨b,off+k,none⟩=some (.int .u8 (ns.getD k 0)):=by
       intro k hk
       have hr:=h1.2.2 k (.int .u8 ns[k]) 0 (.int .u8 ns[k]) (by simp[hk]) rfl
       have hks:k<news.size:=by rw[h1.1];simpa using hk
       have e1:news.getD (k*1+0) undef=news[k]:=by simp[Array.getD_eq_getD_getElem?,hks]
       rw[e1] at hr
       have:=h2 k news[k] (Array.getElem?_eq_getElem hks)
       rw[this,hr.int_inv]
       simp[List.getD,hk]
      have q:=run_convert_bytes_arg (P:=P) w s e hs hel b off n c ns hl (fun k hk=>hget k (by omega)) t ht
      simp[execOp,ho,hv,q,strOfNums]
   ·cases hxs
  ·rename_i i e0 n sz' hn
   split at hxs
   ·rename_i hsz
    subst hsz
    rw[hn] at hxr
    generalize hv:a.eval x=v at hxr
    cases hxr with
    |gsl _ _ _ _ b c hb hc hm hk2 hty=>
     obtain⟨hl,news,h1,h2⟩:=mread_rep I (by omega) hb hxs
     have hl:ns.length=n:=by simpa using hl
     by_cases h0:ns=[]
     ·exact nilcase _ _ _ hv h0 (by rw[←hl,h0];rfl)
     ·have hget:∀k,k<ns.length→w.cell? ⟨b,0+k,none⟩=some (.int .u8 (ns.getD k 0)):=by
       intro k hk
       have hr:=h1.2.2 k (.int .u8 ns[k]) 0 (.int .u8 ns[k]) (by simp[hk]) rfl
       have hks:k<news.size:=by rw[h1.1];simpa using hk
       have e1:news.getD (k*1+0) undef=news[k]:=by simp[Array.getD_eq_getD_getElem?,hks]
       rw[e1] at hr
       have:=h2 k news[k] (Array.getElem?_eq_getElem hks)
       rw[this,hr.int_inv]
       simp[List.getD,hk]
      have q:=run_convert_bytes_arg (P:=P) w s e hs hel b 0 n c ns hl (fun k hk=>hget k (by omega)) t ht
      simp[execOp,ho,hv,q,strOfNums]
   ·cases hxs
  unfold srcB at hxs
  split at hxs
  ·rename_i hn
   rw[hn] at hxr
   have hns:ns=[]:=by cases ns with |nil=>rfl |cons=>cases hxs
   exact nilcase _ _ _ hxr.p_inv.nils_inv hns rfl
  ·split at hxs
   ·rename_i sz' es hel'
    split at hxs
    ·rename_i hsz
     subst hsz
     cases hxs
     obtain⟨ad,cap,hv,hcap,hne⟩:=slice_inv (elems?_rep hxr hel')
     by_cases h0:ns=[]
     ·exact nilcase _ _ _ hv h0 (by simp[h0])
     ·obtain⟨b,off,vs,rfl,h1,h2,h3,h4⟩:=hne (by simpa using h0)
      have q:=run_convert_bytes_arg (P:=P) w s e hs hel b off ns.length cap ns rfl (fun k hk=>by
       have hm:=I.mem _ _ _ (h3 k 0 (by simpa using hk) (by omega))
       have hr:=h4 k (.int .u8 ns[k]) 0 (.int .u8 ns[k]) (by simp[hk]) rfl
       rw[hr.int_inv] at hm
       simp only[Nat.mul_one,Nat.add_zero] at hm
       rw[hm]
       simp[List.getD,hk]) t ht
      have hlen:(List.map (fun n=>PD.int IntKind.u8 n) ns).length=ns.length:=by simp
      rw[hlen] at hv
      simp[execOp,ho,hv,q,strOfNums]
    ·cases hxs
   ·cases hxs
 ·cases he
theorem done_toBytes(I:Inv G γ H w)(E:EnvRep γ env a.tmps){s t e:TypeId}{x:Operand}{x':Opd}(ho:o.op= .convert s t x)(hs:P.underlying s=some .string)(ht:P.underlying t=some (.slice e))(hel:P.underlying e=some (.int .u8))(hx:opdOf x=some x')
    {d:D} {H':Hp} (he:evK G env H (.toBytes e x')=some (d,H')):Done P G γ H w a o d H':=by
 have hxr:=opdOf_rep E hx
 simp only[evK,toBytesD] at he
 split at he
 ·rename_i str hstr
  split at he
  ·rename_i hlim
   cases he
   rw[hstr] at hxr
   have hv:=hxr.p_inv.str_inv
   have hsz:(⟨str.toArray⟩:ByteArray).size=str.length:=by simp[ByteArray.size]
   have hrun:=run_bytes_of_string w s t e ⟨str.toArray⟩ hs ht hel
   rw[hsz] at hrun
   have hge:=grownCap_ge w str.length 0 e
   have hml:str.length≤maxLen:=by simp only[maxLen];omega
   have hcm:=grownCap_le_maxLen w str.length 0 e hml
   obtain⟨b1,b2,b3⟩:=I.drew.newRow0 (bytesRow ⟨str.toArray⟩ (grownCap w str.length 0 e)) e ((bytesRow ⟨str.toArray⟩ (grownCap w str.length 0 e)).size,(bytesRow ⟨str.toArray⟩ (grownCap w str.length 0 e)).size+1)
   refine⟨.slice (some ⟨w.heap.size,0,none⟩) str.length (grownCap w str.length 0 e),_,_,.inl (by simp[execOp,ho,hv,hrun]),b1,(Frame.drew γ H w).trans rfl b2,b3,?_⟩
   have hre:RepE γ.mem 1 ((str.map fun b=>Value.int .u8 b.toNat).toArray) (str.map fun b=>PD.int .u8 b.toNat):=by
    refine⟨by simp,fun e he=>?_,fun i e j c he hc=>?_⟩
    ·obtain⟨b,_,rfl⟩:=List.mem_map.1 he
     exact⟨rfl,fun c hc=>by simp[PD.cells] at hc;subst hc;rfl⟩
    ·simp only[List.getElem?_map,Option.map_eq_some_iff] at he
     obtain⟨b,hb,rfl⟩:=he
     match j with
     | 0=>
      simp only[PD.cells,List.getElem?_cons_zero,Option.some.injEq] at hc
      subst hc
      have :((str.map fun b=>Value.int .u8 b.toNat).toArray).getD (i*1+0) undef= .int .u8 b.toNat:=by simp[Array.getD_eq_getD_getElem?,hb]
      rw[this];exact .int _ _
     |j+1=>simp[PD.cells] at hc
   have hre':=(hre.mono b1.mem).slice (b:=w.heap.size) (cap:=grownCap w str.length 0 e) (by simpa using hge) (fun k hk=>by
    have hk:k<str.length:=by simpa using hk
    have hd:w.drew.heap.size=w.heap.size:=rfl
    simp only[Gh.asPD0,hd,if_true]
    simp[bytesRow,Array.getElem?_append,hk])
   exact .p _ _ (by simpa using hre')
  ·cases he
 ·cases he
theorem done_toBytesG(I:Inv G γ H w)(E:EnvRep γ env a.tmps){s t e:TypeId}{x:Operand}{x':Opd}(ho:o.op= .convert s t x)(hs:P.underlying s=some .string)(ht:P.underlying t=some (.slice e))(hel:P.underlying e=some (.int .u8))(hx:opdOf x=some x')
    {d:D} {H':Hp} (he:evK G env H (.toBytesG e x')=some (d,H')):Done P G γ H w a o d H':=by
 have hxr:=opdOf_rep E hx
 simp only[evK,toBytesGD] at he
 split at he
 ·rename_i str hstr
  split at he
  ·rename_i hlim
   cases he
   rw[hstr] at hxr
   have hv:=hxr.p_inv.str_inv
   have hsz:(⟨str.toArray⟩:ByteArray).size=str.length:=by simp[ByteArray.size]
   have hrun:=run_bytes_of_string w s t e ⟨str.toArray⟩ hs ht hel
   rw[hsz] at hrun
   have hge:=grownCap_ge w str.length 0 e
   have hml:str.length≤maxLen:=by simp only[maxLen];omega
   have hcm:=grownCap_le_maxLen w str.length 0 e hml
   have hrs:(bytesRow ⟨str.toArray⟩ (grownCap w str.length 0 e)).size=grownCap w str.length 0 e:=by
    simp[bytesRow];omega
   have hone:∀c∈(str.map fun b=>PD.int .u8 b.toNat).map D.p,c.one=true:=fun c hc=>by
    obtain⟨q,hq,rfl⟩:=List.mem_map.1 hc
    obtain⟨b,_,rfl⟩:=List.mem_map.1 hq
    rfl
   obtain⟨γ',a1,a2,a5,a3,a4⟩:=I.drew.newBoxF (vs:=bytesRow ⟨str.toArray⟩ (grownCap w str.length 0 e)) (cs:=(str.map fun b=>PD.int .u8 b.toNat).map D.p) e 1 (by decide)
    ((bytesRow ⟨str.toArray⟩ (grownCap w str.length 0 e)).size,(bytesRow ⟨str.toArray⟩ (grownCap w str.length 0 e)).size+1) (fun h=>by cases h) (fun k _ h2 h3=>by simp at h3;omega)
    (fun γ' _ _ _=>⟨by rw[hrs];simpa using hge,fun k d hd=>by
     have hk:k<str.length:=by have:=(List.getElem?_eq_some_iff.1 hd).1;simpa using this
     simp only[List.getElem?_map,Option.map_eq_some_iff] at hd
     obtain⟨q,⟨b,hb,rfl⟩,rfl⟩:=hd
     have :(bytesRow ⟨str.toArray⟩ (grownCap w str.length 0 e)).getD k undef= .int .u8 b.toNat:=by
      have hbk:str[k]=b:=(List.getElem?_eq_some_iff.1 hb).2
      simp[bytesRow,Array.getD_eq_getD_getElem?,Array.getElem?_append,hk,hbk]
     rw[this]
     exact .p _ _ (.int _ _)⟩) hone
   rw[hrs] at a5
   refine⟨.slice (some ⟨w.heap.size,0,none⟩) str.length (grownCap w str.length 0 e),_,γ',.inl (by simp[execOp,ho,hv,hrun]),a1,(Frame.drew γ H w).trans rfl a3,a4,?_⟩
   exact .gsl _ _ _ _ _ _ a2 hge hcm (k:=1) (by decide) (by rw[Nat.mul_one];exact a5)
  ·cases he
 ·cases he
end Go.Vs
namespace Go.Vs
variable {P : Program} {G : Nat → Option (List PD)} {γ : Gh} {H : Hp} {w : World} {env : Env} {a : Act} {o : Oper}
def frzR(fr:Nat×Nat)(n:Nat):Nat×Nat:=if fr.1==fr.2 then(0,0+n) else(min fr.1 0,max fr.2 (0+n))
theorem freeze_heap{b n:Nat}{cs:Array Value}{T:Nat}{fr:Nat×Nat}(hn:0<n)(hb:w.heap[b]? =some (.cells cs T fr))(c:Nat):
    (w.freeze ⟨b,0,none⟩ n).heap[c]? =if c=b then some (.cells cs T (frzR fr n)) else w.heap[c]?:=by
 have hn0:¬n=0:=by omega
 simp only[World.freeze,hn0,if_false,Array.getElem?_modify]
 by_cases h:c=b
 ·subst h
  rw[if_pos rfl,if_pos rfl,hb]
  rfl
 ·rw[if_neg (Ne.symm h),if_neg h]
theorem frzR_in{fr:Nat×Nat}{n k:Nat}(h:(frzR fr n).1≤k∧k<(frzR fr n).2):k<n∨(fr.1<fr.2∧k<fr.2)∨fr.2<fr.1:=by
 unfold frzR at h
 split at h
 ·exact .inl (by simpa using h.2)
 ·rename_i hne
  have hne:fr.1≠fr.2:=by simpa using hne
  simp at h
  by_cases hk:k<n
  ·exact .inl hk
  ·by_cases h2:fr.1<fr.2
   ·exact .inr (.inl ⟨h2,by omega⟩)
   ·exact .inr (.inr (by omega))
theorem Inv.freeze(I:Inv G γ H w){b n:Nat}{cs:Array Value}{T:Nat}{fr:Nat×Nat}(hn:0<n)(hb:w.heap[b]? =some (.cells cs T fr))(hbase:γ.base≤b)(hk:∀k,k<n→γ.mem b k≠none)
    (hle:n≤cs.size) (hfr:∀k,k<cs.size→(frzR fr n).1≤k∧k<(frzR fr n).2→(fr.1≤k∧k<fr.2)∨γ.mem b k≠none):
    Frame γ H w γ H (w.freeze ⟨b,0,none⟩ n)∧Inv G γ H (w.freeze ⟨b,0,none⟩ n):=by
 have hh:=freeze_heap (w:=w) hn hb
 have hn0:¬n=0:=by omega
 have hsim:∀c,Sim (γ.mem c) (w.heap[c]?) ((w.freeze ⟨b,0,none⟩ n).heap[c]?):=by
  intro c
  rw[hh c]
  by_cases h:c=b
  ·subst h
   rw[if_pos rfl]
   exact .inr ⟨cs,T,fr,frzR fr n,hb,rfl,hfr⟩
  ·rw[if_neg h];exact .refl _ _
 have hsz:(w.freeze ⟨b,0,none⟩ n).heap.size=w.heap.size:=by simp[World.freeze,hn0]
 refine⟨⟨by simp[World.freeze,hn0],by simp[World.freeze,hn0],by simp[World.freeze,hn0],by omega,fun c _ _=>⟨fun hc=>?_,hsim c⟩,fun _ _ _ _=>rfl,fun _ h=>.inl h,fun _ _ h=>.inl h,fun _ h=>.inl h⟩,?_⟩
 ·rw[hh c,if_neg (by omega)]
 ·have hcell:∀c q,(w.freeze ⟨b,0,none⟩ n).cell? ⟨c,q,none⟩=w.cell? ⟨c,q,none⟩:=by
   intro c q
   unfold World.cell?
   simp only[hh c]
   by_cases h:c=b
   ·subst h;simp[hb]
   ·simp[h]
  constructor
  ·rw[hsz];exact I.size
  ·intro c T' m hc
   obtain⟨us,fr',h2,h3,h4⟩:=I.tys c T' m hc
   rw[hh c]
   by_cases h:c=b
   ·subst h
    rw[if_pos rfl]
    rw[hb] at h2
    cases h2
    refine⟨_,_,rfl,h3,fun he=>?_⟩
    have h4:=h4 he
    unfold frzR
    split<;>simp<;>omega
   ·rw[if_neg h];exact⟨us,fr',h2,h3,h4⟩
  ·exact I.rowb
  ·intro c q v h
   rw[hcell];exact I.mem c q v h
  ·exact I.globs
  ·exact I.lenB
  ·exact I.nodup
  ·intro i c cs' hc hcs
   obtain⟨vs',T',fr',a1,a2⟩:=I.box i c cs' hc hcs
   by_cases hne:c=b
   ·subst hne
    have h0:cs'=[]:=Classical.byContradiction fun h0=>hk 0 hn (I.boxmem c 0 ⟨i,cs',hc,hcs,h0⟩)
    subst h0
    exact⟨_,_,_,by rw[viewC_of rfl,hh c,if_pos rfl],⟨Nat.zero_le _,fun i d hd=>by simp at hd⟩,fun _ c hc=>by simp at hc,fun h=>(h rfl).elim⟩
   ·exact⟨vs',T',fr',by rw[hh c,if_neg hne];exact a1,a2⟩
  ·exact I.boxmem
  ·exact I.empt
  ·exact I.lenT
  ·intro t row f h1 h2
   obtain⟨r,a1,a2⟩:=I.row t row f h1 h2
   exact⟨r,a1,a2.sim (fun _ _ h=>h) (fun c _ _ _=>hsim c) (fun _ _ _ _ _=>rfl) (fun _ _ _ _ h=>h)⟩
  ·exact I.rowmax
  ·exact I.free
theorem isPtr_some{t:TypeId}(h:isPtr P t=true):∃e,P.underlying t=some (.pointer e):=by
 unfold isPtr at h
 split at h
 ·exact⟨_,by assumption⟩
 ·cases h
theorem done_sdata(I:Inv G γ H w)(E:EnvRep γ env a.tmps){x:Operand}{x':Opd}{ts:Array TypeId}(ho:o.op= .call {callee:=.builtin .unsafeSliceData,args:=#[x],argTypes:=ts})(hp:isPtr P o.type=true)(hx:opdOf x=some x')
    {d:D} {H':Hp} (he:evK G env H (.sdata x')=some (d,H')):Done P G γ H w a o d H':=by
 have hxr:=opdOf_rep E hx
 obtain⟨ep,hp⟩:=isPtr_some hp
 simp only[evK] at he
 obtain⟨d0,hd,hh⟩:=Option.map_eq_some_iff.1 he
 cases hh
 have fin:∀v w',(Builtin.unsafeSliceData_ ts o.type #[a.eval x]).run P w= .ok v w'→(execOp a.eval o).run P w= .ok (.value v) w':=by
  intro v w' h
  simp[execOp,ho,resolve,invoke,builtin,h]
 unfold sdataD at hd
 split at hd
 ·rename_i hn
  cases hd
  rw[hn] at hxr
  have hv:=hxr.p_inv.nils_inv
  exact .same I (fin _ _ (by rw[hv];rfl)) (.p _ _ .nilp)
 ·rename_i t e sz es hn
  rw[hn] at hxr
  generalize hev:a.eval x=v at hxr
  cases hxr with
  |tsl _ _ _ _ _ row r h1 h2 h3 h4 h5 h6=>
   subst h6
   cases r with
   |none=>
    have he0:es=[]:=by
     obtain⟨ad,cap',hv,_,hne⟩:=slice_inv h4
     by_cases h0:es=[]
     ·exact h0
     ·obtain⟨b',o',vs,hb,_⟩:=hne h0
      subst hb
      simp[rowVal] at hv
    subst he0
    simp only[List.isEmpty_nil,if_true] at hd
    split at hd
    ·cases hd
     exact .same I (fin _ _ (by rw[hev];rfl)) (.anyp _)
    ·cases hd
   |some bc=>
    obtain⟨b,cap⟩:=bc
    by_cases h0:es=[]
    ·subst h0
     simp only[List.isEmpty_nil,if_true] at hd
     split at hd
     ·rename_i hf
      cases hd
      by_cases hc:cap=0
      ·subst hc
       obtain⟨r',q1,q2⟩:=I.row t row 0 h1 hf
       have h5:row.st 0=some (some (b,0)):=h5
       rw[h5] at q1
       cases q1
       obtain⟨us,fr,q3,_⟩:=I.tysE q2.1.2
       have hsh:w.shape? b=some (row.e,us.size):=by simp[World.shape?,q3]
       have hrun:=Lib.run_unsafeSliceData_zero (P:=P) w ts o.type ep hp ⟨b,0,none⟩ 0 _ hsh
       obtain⟨F,J⟩:=I.allocObj (.view ⟨b,0,none⟩ ep)
       exact⟨_,_,γ,.inl (fin _ _ (by rw[hev];exact hrun)),.refl γ,F,J,.anyp _⟩
      ·exact .same I (fin _ _ (by rw[hev];exact Lib.run_unsafeSliceData_row (P:=P) w ts o.type _ _ cap hc)) (.anyp _)
     ·cases hd
    ·have hpos:0<es.length:=List.length_pos_iff.2 h0
     rw[if_neg (by simpa using h0)] at hd
     cases hd
     obtain⟨ad,cap',hv,hcap,_⟩:=slice_inv h4
     have hc:cap≠0:=by
      have :cap=cap':=by simp[rowVal] at hv;exact hv.2
      omega
     exact .same I (fin _ _ (by rw[hev];exact Lib.run_unsafeSliceData_row (P:=P) w ts o.type _ _ cap hc)) (.dptr b es.length cap _ (.tsl _ t e sz es row (some (b,cap)) h1 h2 h3 h4 h5 rfl) hpos (I.rowb t row _ b cap h1 h5))
 ·rename_i e sz es hn
  split at hd
  ·cases hd
  ·rename_i h0
   cases hd
   have h0:es≠[]:=by simpa using h0
   have hpos:0<es.length:=List.length_pos_iff.2 h0
   rw[hn] at hxr
   generalize hev:a.eval x=v at hxr
   cases hxr with
   |fsl b n _ _ _ hb ht hlen hrep=>
    subst hlen
    exact .same I (fin _ _ (by rw[hev];exact Lib.run_unsafeSliceData_row (P:=P) w ts o.type _ _ es.length (by omega))) (.dptr b es.length es.length _ (.fsl b es.length e sz es hb ht rfl hrep) hpos hb)
 ·cases hd
theorem run_loadBytes:∀(l:List Int) (b off:Nat) (acc:ByteArray),(∀j x,l[j]? =some x→w.cell? ⟨b,off+j,none⟩=some (.int .u8 x))→
    (loadBytes ⟨b,off,none⟩ acc l.length).run P w= .ok ⟨acc.data++(l.map fun n=>UInt8.ofNat n.toNat).toArray⟩ w
 |[],b,off,acc,_=>by simp[loadBytes]
 |x::l,b,off,acc,h=>by
  have h0:w.cell? ⟨b,off,none⟩=some (.int .u8 x):=h 0 x rfl
  have ih:=run_loadBytes l b (off+1) (acc.push (x.toNat.toUInt8)) (fun j y hy=>by
   have:=h (j+1) y (by simpa using hy)
   have e:off+1+j=off+(j+1):=by omega
   rw[e];exact this)
  have hadd:(⟨b,off,none⟩:Addr).add 1=⟨b,off+1,none⟩:=by simp[Addr.add]
  simp only[List.length_cons,loadBytes,Sem.run_bind,run_load,h0,Result.andThen,hadd]
  rw[ih]
  congr 1
  apply ByteArray.ext
  simp[ByteArray.push]
theorem done_ustr(I:Inv G γ H w)(E:EnvRep γ env a.tmps){x n:Operand}{x' n':Opd}{t it e:TypeId}(ho:o.op= .call {callee:=.builtin .unsafeString,args:=#[x,n],argTypes:=#[t,it]})(hp:P.underlying t=some (.pointer e))(hc:P.cellsOf e=1)
    (hx:opdOf x=some x') (hn:opdOf n=some n') {d:D} {H':Hp} (he:evK G env H (.ustr e x' n')=some (d,H')):Done P G γ H w a o d H':=by
 have hxr:=opdOf_rep E hx
 have hnr:=opdOf_rep E hn
 simp only[evK] at he
 have fin:∀v w',(Builtin.unsafeString_ #[t,it] o.type #[a.eval x,a.eval n]).run P w= .ok v w'→(execOp a.eval o).run P w= .ok (.value v) w':=by
  intro v w' h
  simp[execOp,ho,resolve,invoke,builtin,h]
 unfold ustrD at he
 split at he
 ·rename_i m hm
  rw[hm] at hnr
  have hnv:=hnr.p_inv.int_inv
  have none':∀p,a.eval x= .pointer p→m=0→Done P G γ H w a o (.p (.str [])) H:=by
   intro p hv h0
   subst h0
   exact .same I (fin _ _ (by rw[hv,hnv];exact Lib.run_unsafeString_none (P:=P) w t it o.type p)) (.p _ _ (.str []))
  split at he
  ·rename_i hxx
   rw[hxx] at hxr
   split at he
   ·rename_i h0
    cases he
    exact none' _ hxr.p_inv.nilp_inv h0
   ·cases he
  ·rename_i hxx
   rw[hxx] at hxr
   split at he
   ·rename_i h0
    cases he
    generalize hev:a.eval x=v at hxr
    cases hxr with
    |anyp p=>exact none' p hev h0
   ·cases he
  ·rename_i tk e' sz es hxx
   rw[hxx] at hxr
   split at he
   ·rename_i hcc
    obtain⟨rfl,rfl,rfl,htk,hlim⟩:=hcc
    obtain⟨s,hs,hh⟩:=Option.map_eq_some_iff.1 he
    cases hh
    obtain⟨ns,rfl,rfl⟩:=bytesOf_some hs
    generalize hev:a.eval x=v at hxr
    cases hxr with
    |dptr b n cap _ h hpos hbase=>
     cases h with
     |tsl _ _ _ _ _ row r h1 h2 h3 h4 h5 h6=>
      cases r with
      |none=>simp[rowVal] at h6
      |some bc=>
       obtain⟨b',cap'⟩:=bc
       simp only[rowVal,Value.slice.injEq,Option.some.injEq,Addr.mk.injEq,and_true] at h6
       obtain⟨rfl,rfl,rfl⟩:=h6
       have hne:ns≠[]:=by intro h;subst h;simp at hpos
       obtain⟨r',q1,q2⟩:=I.row tk row _ h1 htk
       rw[h5] at q1
       cases q1
       obtain⟨us,fr,z1,z2,z3,z4⟩:=I.tysE q2.1.2
       rw[h3,Nat.mul_one] at z2 z3
       have hlen:(ns.map fun n=>PD.int .u8 n).length=ns.length:=by simp
       simp only[List.length_map] at hlim hpos h5 q2 hev hnv h4 htk
       obtain⟨ad,cap2,hv2,hcap2,hne2⟩:=slice_inv h4
       obtain⟨b2,o2,vs,hb2,g1,g2,g3,g4⟩:=hne2 (by simpa using hne)
       simp only[Value.slice.injEq] at hv2
       rw[hb2] at hv2
       obtain⟨hv2,_,_⟩:=hv2
       cases hv2
       have hmem:∀k,k<ns.length→∃n,ns[k]? =some n∧γ.mem b k=some (.int .u8 n):=by
        intro k hk
        have:=g3 k 0 (by simpa using hk) (by omega)
        have e1:(ns.map fun n=>PD.int .u8 n)[k]? =some (.int .u8 (ns[k])):=by simp[hk]
        have q:=g4 k _ 0 _ e1 rfl
        have hvv:=q.int_inv
        rw[hvv] at this
        simp only[Nat.zero_add,Nat.mul_one,Nat.add_zero] at this
        exact⟨ns[k],List.getElem?_eq_getElem hk,this⟩
       have hcell:∀j x,ns[j]? =some x→w.cell? ⟨b,0+j,none⟩=some (.int .u8 x):=by
        intro j x hj
        obtain⟨n,hn1,hn2⟩:=hmem j (List.getElem?_eq_some_iff.1 hj).1
        rw[hj] at hn1
        cases hn1
        rw[Nat.zero_add]
        exact I.mem _ _ _ hn2
       have hle:ns.length≤us.size:=by rw[z2];exact q2.1.1
       have hlb:=run_loadBytes (P:=P) (w:=w) ns b 0 .empty hcell
       have hrun:(Builtin.unsafeString_ #[t,it] o.type #[.pointer (some ⟨b,0,none⟩),.int .i64 (ns.length:Int)]).run P w= .ok (.string ⟨(ns.map fun n=>UInt8.ofNat n.toNat).toArray⟩) (w.freeze ⟨b,0,none⟩ ns.length):=by
        have hl:ns.length≠0:=by simpa using hne
        have hsh:w.shape? b=some (e',us.size):=by simp[World.shape?,z1,h2]
        have hlies:=Lib.liesAt_bytes (P:=P) hc (us.size/P.cellsOf e') ns.length (by rw[hc];simpa using hle)
        have h63':¬(9223372036854775807 :Int)<(ns.length:Int):=by omega
        have hdef:Builtin.unsafeString_ #[t,it] o.type #[.pointer (some ⟨b,0,none⟩),.int .i64 ns.length]=
            (do
             let n ←asInt (.int .i64 ns.length)
             if n<0 then runtimePanic (.error "unsafe.String: len out of range")
             if n>IntKind.i64.max then unsupported (.unsafePointer "String: a length above the largest int")
             if n=0 then pure (.string .empty)
             else if ←variablesAt ⟨b,0,none⟩ (←elemOf t) n.toNat then do
              let s ←loadBytes ⟨b,0,none⟩ .empty n.toNat
              freeze ⟨b,0,none⟩ n.toNat
              pure (.string s)
             else unsupported (.unsafePointer "String: not so many bytes at ptr")):=rfl
        rw[hdef]
        have hmax:IntKind.i64.max=9223372036854775807:=rfl
        have hneg:¬(ns.length:Int)<0:=by omega
        simp[asInt,asIntOf,hmax,h63',hneg,hl,variablesAt,hsh,elemOf,run_underlying hp,hlies,hlb]
       obtain⟨F,J⟩:=I.freeze (b:=b) (n:=ns.length) (by simpa using hpos) z1 (I.rowb tk row _ b cap h1 h5) (fun k hk=>by
        obtain⟨n,_,hn2⟩:=hmem k hk
        rw[hn2];simp) hle (fun k hk hin=>by
        by_cases hkn:k<ns.length
        ·obtain⟨n,_,hn2⟩:=hmem k hkn
         exact .inr (by rw[hn2];simp)
        ·rcases frzR_in hin with h |⟨h,h'⟩ |h
         ·exact absurd h hkn
         ·refine .inl ⟨?_,h'⟩
          by_cases hlt:ns.length<cap
          ·obtain⟨cur,fr2,c1,c2,c3,_⟩:=q2.2 hlt
           rw[z1] at c1
           cases c1
           have hfl:fr.1≤k:=by
            rcases Nat.lt_or_ge k fr.1 with hk1 |hk1
            ·exact absurd ⟨Nat.le_refl _,h⟩ (c2 fr.1 (by rw[h3];omega) (by omega))
            ·exact hk1
           exact hfl
          ·omega
         ·omega)
       exact⟨_,_,γ,.inl (fin _ _ (by rw[hev,hnv];simpa using hrun)),.refl γ,F,J,.p _ _ (.str _)⟩
   ·cases he
  ·cases he
 ·cases he
theorem run_eqIn_nili{t:TypeId}{ms:Array (String×TypeId)}(d:Nat)(ht:P.underlying t=some (.interface ms)):(Op.equalIn (d+1) t .nilIface .nilIface).run P w= .ok true w:=by simp[Op.equalIn,run_underlying ht]
theorem run_eqIn_ifc{t:TypeId}{ms:Array (String×TypeId)}(d:Nat)(ht:P.underlying t=some (.interface ms))(u:TypeId)(v:Value):(Op.equalIn (d+1) t (.iface u v) .nilIface).run P w= .ok false w:=by simp[Op.equalIn,run_underlying ht]
theorem done_eqi(I:Inv G γ H w)(E:EnvRep γ env a.tmps){op:BinOp}{t yt:TypeId}{x y:Operand}{x' y':Opd}{ms:Array (String×TypeId)}{yc:Value}(ho:o.op= .binOp op t x y yt)(hop:op= .eql∨op= .neq)(hyc:y= .const yc)(hx:opdOf x=some x')(hy:opdOf y=some y')
    (ht:P.underlying t=some (.interface ms)) {d:D} {H':Hp} (he:evK G env H (.eqk 4 (op== .neq) x' y')=some (d,H')):Done P G γ H w a o d H':=by
 have hxr:=opdOf_rep E hx
 have hyr:=opdOf_rep E hy
 simp only[evK] at he
 obtain⟨r,hd,hh⟩:=Option.map_eq_some_iff.1 he
 cases hh
 have fin:∀u v,a.eval x=u→a.eval y=v→(match u with | .int _ _ | .float _ _ | .complex _ _ _ | .string _=>true |_=>false)=false→(∀cs,u≠.agg cs)→(Op.equal t u v).run P w= .ok r w→
     Done P G γ H w a o (.p (.bool (if op== .neq then !r else r))) H:=by
  intro u v hu hv h1 h2 h4
  refine .same I (v:=.bool (if op== .neq then !r else r)) ?_ (.p _ _ (.bool _))
  have e:(eqGuard op t x y u v).run P w= .ok () w:=by
   by_cases hb:u= .nilIface∧v= .nilIface
   ·obtain⟨rfl,rfl⟩:=hb
    rcases hop with rfl |rfl<;>simp[eqGuard,hyc]
   ·exact run_eqGuard_ok (P:=P) (op:=op) (t:=t) (x:=x) (y:=y) (u:=u) (v:=v) hb (fun cs _ h=>h2 cs h.1) w
  have q:=run_eqneq hop h1 h4
  simp[execOp,ho,hu,hv,e,q]
 simp only[eqD] at hd
 split at hd
 ·rename_i e1 e2
  cases hd
  rw[e1] at hxr;rw[e2] at hyr
  have h1:a.eval x= .nilIface:=by have:=hxr.p_inv;generalize a.eval x=v at this;cases this;rfl
  have h2:a.eval y= .nilIface:=by have:=hyr.p_inv;generalize a.eval y=v at this;cases this;rfl
  exact fin _ _ h1 h2 rfl (by simp) (by rw[equal_succ];exact run_eqIn_nili _ ht)
 ·rename_i e1 e2
  cases hd
  rw[e1] at hxr;rw[e2] at hyr
  have h1:∃t v,a.eval x= .iface t v:=by have:=hxr.p_inv;generalize a.eval x=v at this;cases this;exact⟨_,_,rfl⟩
  have h2:a.eval y= .nilIface:=by have:=hyr.p_inv;generalize a.eval y=v at this;cases this;rfl
  obtain⟨t',v',h1⟩:=h1
  exact fin _ _ h1 h2 rfl (by simp) (by rw[equal_succ];exact run_eqIn_ifc _ ht _ _)
 ·rename_i e1 e2
  cases hd
  rw[e1] at hxr;rw[e2] at hyr
  have h1:∃t v,a.eval x= .iface t v:=by generalize a.eval x=v at hxr;cases hxr;exact⟨_,_,rfl⟩
  have h2:a.eval y= .nilIface:=by have:=hyr.p_inv;generalize a.eval y=v at this;cases this;rfl
  obtain⟨t',v',h1⟩:=h1
  exact fin _ _ h1 h2 rfl (by simp) (by rw[equal_succ];exact run_eqIn_ifc _ ht _ _)
 ·cases hd
theorem allocBD_ok(I:Inv G γ H w){T:Nat}{v:Value}{cs:List D}(q:RepL γ v.cells cs){d:D}{H':Hp}(he:allocBD T cs H=some (d,H')):
    ∃γ',γ.le γ'∧Frame γ H w γ' H' (w.alloc (.cells v.cells T))∧Inv G γ' H' (w.alloc (.cells v.cells T))∧RepD γ' (.pointer (some ⟨w.heap.size,0,none⟩)) d:=by
 unfold allocBD at he
 split at he
 ·rename_i r
  split at he
  ·rename_i hall
   cases he
   have hall:∀c∈r,c.one=true:=by simpa[List.all_eq_true] using hall
   obtain⟨γ',a1,a2,_,a3,a4⟩:=I.newBoxT (vs:=v.cells) (cs:=.fresh T (r.length+1) H.bx.length::r) T (fun γ' hle hb ht=>by
    refine⟨Nat.le_of_eq q.1.symm,fun i d hd=>?_⟩
    match i with
    | 0=>
     simp only[List.getElem?_cons_zero,Option.some.injEq] at hd
     subst hd
     have:=(q.2 0 _ rfl).p_inv.nilp_inv
     rw[this]
     have hl:v.cells.size=r.length+1:=by simpa using q.1
     rw[hl] at ht
     exact .fresh T _ _ _ hb ht
    |i+1=>exact(q.2 (i+1) d hd).mono hle) (fun c hc=>by
    rcases List.mem_cons.1 hc with rfl |h
    ·rfl
    ·exact hall c h)
   exact⟨γ',a1,a3,a4,.box _ _ _ a2⟩
  ·cases he
 ·cases he
theorem done_allocB(I:Inv G γ H w){e:TypeId}{z:PD}(ho:o.op= .alloc e)(hz:zeroOf P e=some z){d:D}{H':Hp}(he:evK G env H (.allocB e z.cells)=some (d,H')):Done P G γ H w a o d H':=by
 simp only[evK] at he
 obtain⟨v,q1,q2⟩:=run_zeroOf hz w
 obtain⟨r1,r2⟩:=(ofV_rep γ.mem q2).cells
 obtain⟨γ',a1,a2,a3,a4⟩:=allocBD_ok I (repL_p r1 fun i d hd=>(r2 i d hd).1) he
 exact⟨.pointer (some ⟨w.heap.size,0,none⟩),_,γ',.inl (by simp[execOp,ho,Instr.alloc,q1,newVar,newRow]),a1,a2,a3,a4⟩
theorem cellsB_rep{γ:Gh}{v:Value}{d:D}(r:RepD γ v d)(h:(match d.cells with | .p .nilp::q=>q.all D.one |_=>false)=true):RepL γ v.cells d.cells:=by
 split at h
 ·rename_i q hq
  have :d.cells.all D.one=true:=by rw[hq];simpa[D.one,PD.one] using h
  exact(r.cells this).1
 ·cases h
theorem done_boxB(I:Inv G γ H w)(E:EnvRep γ env a.tmps){e:TypeId}{x:Operand}{y:Opd}(ho:o.op= .box e x)(hx:opdOf x=some y){d:D}{H':Hp}(he:evK G env H (.boxB e y)=some (d,H')):Done P G γ H w a o d H':=by
 have hxr:=opdOf_rep E hx
 simp only[evK] at he
 have hc:(match(y.ev env).cells with | .p .nilp::q=>q.all D.one |_=>false)=true:=by
  unfold allocBD at he
  split at he
  ·rename_i r hr
   split at he
   ·rename_i h;rw[hr];exact h
   ·cases he
  ·cases he
 obtain⟨γ',a1,a2,a3,a4⟩:=allocBD_ok I (cellsB_rep hxr hc) he
 exact⟨.pointer (some ⟨w.heap.size,0,none⟩),_,γ',.inl (by simp[execOp,ho,Instr.box,newVar,newRow]),a1,a2,a3,a4⟩
theorem flat_rep{m:Mem}{sz:Nat}{cs:Array Value}:∀(es:List PD) (base:Nat),(∀e∈es,e.cells.length=sz)→(∀(i:Nat) e (j:Nat) c,es[i]? =some e→e.cells[j]? =some c→RepP m (cs.getD ((base+i)*sz+j) undef) c)→
    ∀(k:Nat) c,(es.flatMap PD.cells)[k]? =some c→RepP m (cs.getD (base*sz+k) undef) c
 |[],base,_,_,k,c,h=>by simp at h
 |e::es,base,h1,h2,k,c,h=>by
  rw[List.flatMap_cons] at h
  have he:=h1 e (by simp)
  by_cases hk:k<e.cells.length
  ·rw[List.getElem?_append_left hk] at h
   have:=h2 0 e k c rfl h
   simpa using this
  ·rw[List.getElem?_append_right (by omega)] at h
   have:=flat_rep es (base+1) (fun e he=>h1 e (by simp[he])) (fun i e j c a b=>by
    have:=h2 (i+1) e j c (by simpa using a) b
    have e1:base+1+i=base+(i+1):=by omega
    rw[e1];exact this) _ c h
   have e2:(base+1)*sz+(k-e.cells.length)=base*sz+k:=by rw[he] at hk⊢;rw[Nat.add_mul];omega
   rw[e2] at this
   exact this
theorem flat_len{sz:Nat}:∀(es:List PD),(∀e∈es,e.cells.length=sz)→(es.flatMap PD.cells).length=es.length*sz
 |[],_=>by simp
 |e::es,h=>by
  rw[List.flatMap_cons,List.length_append,flat_len es (fun e he=>h e (by simp[he])),h e (by simp),List.length_cons,Nat.add_mul]
  omega
theorem RepE.flat{m:Mem}{sz:Nat}{cs:Array Value}{es:List PD}(r:RepE m sz cs es){tail:Array Value}(γ:Gh)(hm:γ.mem=m):RepB γ (cs++tail) ((es.flatMap PD.cells).map .p)∧∀c∈(es.flatMap PD.cells).map D.p,c.one=true:=by
 subst hm
 obtain⟨r1,r2,r3⟩:=r
 have hl:=flat_len es (fun e he=>(r2 e he).1)
 refine⟨⟨by simp[hl,r1],fun k d hd=>?_⟩,fun c hc=>?_⟩
 ·simp only[List.getElem?_map,Option.map_eq_some_iff] at hd
  obtain⟨c,hc,rfl⟩:=hd
  have:=flat_rep (cs:=cs) es 0 (fun e he=>(r2 e he).1) (fun i e j c a b=>by rw[Nat.zero_add];exact r3 i e j c a b) k c hc
  rw[Nat.zero_mul,Nat.zero_add] at this
  have hk:k<cs.size:=by rw[r1,←hl];exact(List.getElem?_eq_some_iff.1 hc).1
  have ee:(cs++tail).getD k undef=cs.getD k undef:=by simp[Array.getD_eq_getD_getElem?,Array.getElem?_append,hk]
  rw[ee]
  exact .p _ _ this
 ·obtain⟨x,hx,rfl⟩:=List.mem_map.1 hc
  obtain⟨e,he,hx⟩:=List.mem_flatMap.1 hx
  exact(r2 e he).2 x hx
theorem done_appendm(I:Inv G γ H w)(E:EnvRep γ env a.tmps){t u e:TypeId}{s x:Operand}{s' x':Opd}{i:TypeInfo}{z:Value}{du:TypeDesc}(ho:o.op= .call {callee:=.builtin .append,args:=#[s,x],argTypes:=#[t,u]})
    (ht:P.underlying t=some (.slice e)) (hu:P.underlying u=some du) (hdu:(∃e',du= .slice e')∨du= .string) (hi:P.info? e=some i) (hz:i.zero=some z) (_:z.cells.size=i.size) (hsp:0<i.size)
    (hs:opdOf s=some s') (hx:opdOf x=some x') {d:D} {H':Hp} (he:evK G env H (.appendm e i.size i.bytes s' x')=some (d,H')):Done P G γ H w a o d H':=by
 have hsr:=opdOf_rep E hs
 have hxr:=opdOf_rep E hx
 simp only[evK] at he
 split at he
 ·rename_i xs hxs
  obtain⟨⟨news,S⟩,_⟩:=srcH_of (P:=P) I hsp hxr hxs
  have fin:∀v' w',(Builtin.append_ #[t,u] o.type #[a.eval s,a.eval x]).run P w= .ok v' w'→(execOp a.eval o).run P w= .ok (.value v') w':=by
   intro v' w' h
   simp[execOp,ho,resolve,invoke,builtin,h]
  have core:∀(es:List PD) (base:Option Addr) (cap:Nat),a.eval s= .slice base es.length cap→es.length≤cap→cap≤es.length→RepP γ.mem (.slice base es.length cap) (.slice i.size es)→
      (if xs.isEmpty then some (s'.ev env,H) else if roomy (es.length+xs.length) i.bytes then some (D.msl H.bx.length 0 (es.length+xs.length) none i.size,{H with bx:=H.bx++[((es++xs).flatMap PD.cells).map .p]}) else none)=some (d,H')→Done P G γ H w a o d H':=by
   intro es base cap hv h1 h2 hrep he
   split at he
   ·rename_i h0
    cases he
    have h0:xs=[]:=by simpa using h0
    have hrun:=run_append_zero (ty:=o.type) ht hu hdu hi S h0 base es.length cap h1
    exact .same I (fin _ _ (by rw[hv];exact hrun)) (hv▸hsr)
   ·rename_i h0
    have h0:xs≠[]:=by simpa using h0
    have hpos:0<xs.length:=List.length_pos_iff.2 h0
    split at he
    ·rename_i hroom
     cases he
     have hroom':es.length+xs.length≤140737488355328∧(es.length+xs.length)*i.bytes≤140737488355328:=by simpa[roomy] using hroom
     obtain⟨olds,So⟩:=elems_src (P:=P) I hsp hrep
     have hrun:=run_append_new (ty:=o.type) ht hu hdu hi hz S base es.length cap olds (fun w' hw'=>So.cells w' hw') (by omega) (by omega) hroom'.2
     obtain⟨q1,q2⟩:=RepE.flat (So.rep.append S.rep) (tail:=Builtin.zeroCells z.cells (grownCap w (es.length+xs.length) cap e-(es.length+xs.length))) γ rfl
     obtain⟨γ',a1,a2,a3,a4⟩:=I.drew.newBox e q1 q2
     have hge:=grownCap_ge w (es.length+xs.length) cap e
     exact⟨_,_,γ',.inl (fin _ _ (by rw[hv];exact hrun)),a1,(Frame.drew γ H w).trans rfl a3,a4,.msl _ _ _ _ _ _ _ a2 hge (fun k hk=>by cases hk)⟩
    ·cases he
  unfold appendmD at he
  split at he
  ·rename_i es hes
   split at hes
   ·rename_i hn
    cases hes
    rw[hn] at hsr
    have hv:=hsr.p_inv.nils_inv
    refine core [] none 0 hv (Nat.le_refl _) (Nat.le_refl _) (.sl0 _ _ _) ?_
    rw[hn] at he⊢;simpa using he
   ·rename_i sz' hn
    split at hes
    ·rename_i hsz
     subst hsz
     cases hes
     have hsr':=hsr
     rw[hn] at hsr'
     generalize hev:a.eval s=v at hsr'
     cases hsr' with
     |esl ad _=>
      refine core [] ad 0 hev (Nat.le_refl _) (Nat.le_refl _) (.sl0 _ _ _) ?_
      simpa using he
    ·cases hes
   ·rename_i e' sz' es' hn
    split at hes
    ·rename_i hsz
     subst hsz
     cases hes
     have hsr':=hsr
     rw[hn] at hsr'
     generalize hev:a.eval s=v at hsr'
     cases hsr' with
     |fsl b n _ _ _ hb hty hlen hrep=>
      subst hlen
      exact core es _ _ hev (Nat.le_refl _) (Nat.le_refl _) hrep he
    ·cases hes
   ·cases hes
  ·cases he
 ·cases he
theorem Inv.retire(I:Inv G γ H w){i b:Nat}{cs:List D}(hb:γ.boxes[i]? =some b)(hc:H.bx[i]? =some cs)(hn:cs≠[]){x:Nat×Nat}(ht:γ.tys b=some x):
    Frame γ H w γ {H with bx:=H.bx.set i []} w∧Inv G γ {H with bx:=H.bx.set i []} w:=by
 have hi:i<H.bx.length:=(List.getElem?_eq_some_iff.1 hc).1
 have hfree:∀t c,Free γ {H with bx:=H.bx.set i []} t c→Free γ H t c:=fun t c h=>Free.congr (fun _ _ h=>h) (fun _ _ h=>h) h
 refine⟨⟨rfl,rfl,rfl,Nat.le_refl _,fun _ _ _=>⟨fun _=>rfl,.refl _ _⟩,fun _ _ _ _=>rfl,fun _ h=>.inl (Lv.set hc hn h),fun t b h=>.inl (hfree t b h),fun _ h=>.inl h⟩,I.size,I.tys,I.rowb,I.mem,I.globs,by simp[I.lenB],I.nodup_set hc hn,?_,fun c o h=>I.boxmem c o (Lv.set hc hn h),?_,I.lenT,I.row,I.rowmax,fun t t' b h h'=>I.free t t' b (hfree t b h) (hfree t' b h')⟩
 ·intro j c cs' hj hcs
  have hcs:(H.bx.set i [])[j]? =some cs':=hcs
  by_cases hij:i=j
  ·subst hij
   rw[hb] at hj
   cases hj
   rw[List.getElem?_set_self hi] at hcs
   cases hcs
   obtain⟨vs,fr,q1,_⟩:=I.tys b x.1 x.2 ht
   exact⟨vs,x.1/2,fr,by rw[viewC_of rfl];exact q1,⟨Nat.zero_le _,fun i d hd=>by simp at hd⟩,fun _ c hc=>by simp at hc,fun h=>(h rfl).elim⟩
  ·rw[List.getElem?_set_ne hij] at hcs
   exact I.box j c cs' hj hcs
 ·intro j c hj hcs
  have hcs:(H.bx.set i [])[j]? =some []:=hcs
  by_cases hij:i=j
  ·subst hij
   rw[hb] at hj
   cases hj
   exact⟨x,ht⟩
  ·rw[List.getElem?_set_ne hij] at hcs
   exact I.empt j c hj hcs
theorem Inv.growBox(I:Inv G γ H w){i b:Nat}{cs ds:List D}(hb:γ.boxes[i]? =some b)(hc:H.bx[i]? =some cs)(hn:cs≠[])(_hmc:isMapC cs=false){vs vs':Array Value}{T:Nat}{fr:Nat×Nat}(hw:w.heap[b]? =some (.cells vs T fr))(hfr:clear fr 0 vs.size)
    (hsz:vs'.size=vs.size) {m T2:Nat} (ht:γ.tys b=some (T2,m)) (hr:RepB γ vs' (ds)) (h1:∀c∈ds,c.one=true):
    γ.le {γ with boxes:=γ.boxes++[b]}∧Frame γ H w {γ with boxes:=γ.boxes++[b]} {H with bx:=H.bx.set i []++[ds]} (w.setRow b vs')∧Inv G {γ with boxes:=γ.boxes++[b]} {H with bx:=H.bx.set i []++[ds]} (w.setRow b vs'):=by
 have hi:i<H.bx.length:=(List.getElem?_eq_some_iff.1 hc).1
 have hmem:b∈γ.boxes:=List.mem_of_getElem? hb
 have hlv:Lv γ H b:=⟨i,cs,hb,hc,hn⟩
 have hle:γ.le {γ with boxes:=γ.boxes++[b]}:=⟨rfl,fun _ _ h=>h,fun _ _ _ h=>h,fun j c h=>by
  have hj:j<γ.boxes.length:=(List.getElem?_eq_some_iff.1 h).1
  show(γ.boxes++[b])[j]? =some c
  rw[List.getElem?_append_left hj];exact h,fun t r h=>⟨r,h,rfl,rfl,fun _ _ h=>h⟩⟩
 have hln:γ.boxes.length=({H with bx:=H.bx.set i []}:Hp).bx.length:=by simp[I.lenB]
 have hlv':∀c,Lv {γ with boxes:=γ.boxes++[b]} {H with bx:=H.bx.set i []++[ds]} c→Lv γ H c:=fun c h=>by
  rcases Lv.push (γ:=γ) (H:={H with bx:=H.bx.set i []}) hln rfl rfl h with h |⟨rfl,_⟩
  ·exact Lv.set hc hn h
  ·exact hlv
 have hno:¬Lv γ {H with bx:=H.bx.set i []} b:=fun h=>by
  obtain⟨j,c,a1,a2,a3⟩:=h
  have a2:(H.bx.set i [])[j]? =some c:=a2
  by_cases hij:i=j
  ·subst hij
   rw[List.getElem?_set_self hi] at a2
   exact a3 (Option.some.inj a2).symm
  ·rw[List.getElem?_set_ne hij] at a2
   exact hij (I.nodup i j b cs c hb a1 hc a2 hn a3)
 have I1:=(I.retire hb hc hn ht).2
 have hfree:∀t c,Free {γ with boxes:=γ.boxes++[b]} {H with bx:=H.bx.set i []++[ds]} t c→Free γ H t c:=fun t c h=>Free.congr (fun _ _ h=>h) (fun _ _ h=>h) h
 have hoth:∀c,c≠b→(w.setRow b vs').heap[c]? =w.heap[c]?:=fun c h=>setRow_other w b c _ h
 have hnew:=setRow_heap w b vs vs' T fr hw
 refine⟨hle,⟨rfl,rfl,rfl,by simp[World.setRow],fun c _ ho=>by rw[hoth c (fun e=>ho (.inl (e▸hlv)))];exact⟨fun _=>rfl,.refl _ _⟩,fun _ _ _ _=>rfl,fun c h=>.inl (hlv' c h),fun t c h=>.inl (hfree t c h),fun c h=>by
  rcases List.mem_append.1 (show c∈γ.boxes++[b] from h) with h |h
  ·exact .inl h
  ·simp at h;subst h;exact .inl hmem⟩,?_⟩
 constructor
 ·have:=I.size
  simpa[World.setRow] using this
 ·intro c T' n hc'
  obtain⟨us',fr',h2,h3⟩:=I.tys c T' n hc'
  by_cases hcb:c=b
  ·subst hcb
   rw[hw] at h2
   cases h2
   exact⟨_,_,hnew,hsz.trans h3.1,h3.2⟩
  ·exact⟨us',fr',(hoth c hcb).trans h2,h3⟩
 ·exact I.rowb
 ·intro c o v h
  have hne:c≠b:=fun e=>by subst e;rw[I.boxmem c o hlv] at h;cases h
  rw[cell_eq (w:=w) (hoth c hne)]
  exact I.mem c o v h
 ·exact I.globs
 ·simp[I.lenB]
 ·exact I1.nodup_push hno rfl rfl
 ·intro j c cs' hj hcs
  rcases push_split hln hj hcs with⟨a1,a2⟩ |⟨_,rfl,rfl⟩
  ·obtain⟨us,T',fr',q1,q2,q3,q4⟩:=I1.box j c cs' a1 a2
   by_cases he:c=b
   ·subst he
    have h0:cs'=[]:=Classical.byContradiction fun h0=>hno ⟨j,cs',a1,a2,h0⟩
    subst h0
    exact⟨_,_,_,by rw[viewC_of rfl];exact hnew,⟨Nat.zero_le _,fun i d hd=>by simp at hd⟩,fun _ c hc=>by simp at hc,fun h=>(h rfl).elim⟩
   ·exact⟨us,T',fr',by rw[hoth c he];exact q1,q2.mono hle,q3,q4⟩
  ·exact⟨vs',T,fr,by rw[viewC_of (isMapC_one h1)];exact hnew,hr.mono hle,fun _=>h1,fun _=>by rw[hsz];exact hfr⟩
 ·exact fun c o h=>I.boxmem c o (hlv' c h)
 ·intro j c hj hcs
  rcases push_split hln hj hcs with⟨a1,a2⟩ |⟨_,rfl,_⟩
  ·exact I1.empt j c a1 a2
  ·exact⟨_,ht⟩
 ·exact I.lenT
 ·intro t row f h1 h2
  obtain⟨r,a1,a2⟩:=I.row t row f h1 h2
  refine⟨r,a1,?_⟩
  refine a2.keep (fun _ _ h=>h) (fun c cap hr hlt=>?_) (fun _ _ _ _ _=>rfl) (fun c cap hr hlt h h'=>?_)
  ·have hne:c≠b:=fun e=>by
    subst e
    subst hr
    obtain⟨cur,_,_,_,_,_,_,hnb⟩:=a2.2 hlt
    exact hnb hmem
   exact hoth c hne
  ·have h':c∈γ.boxes++[b]:=h'
   rcases List.mem_append.1 h' with h' |h'
   ·exact h h'
   ·simp at h';subst h';exact h hmem
 ·exact I.rowmax
 ·intro t t' c h h'
  exact I.free t t' c (hfree t c h) (hfree t' c h')
theorem RepB.appendL{γ:Gh}{u v:Array Value}{cs ds:List D}(hu:u.size=cs.length)(r:RepB γ u cs)(q:RepB γ v ds):RepB γ (u++v) (cs++ds):=by
 refine⟨by have:=q.1;simp;omega,fun i d hd=>?_⟩
 by_cases hi:i<cs.length
 ·rw[List.getElem?_append_left hi] at hd
  have:=r.2 i d hd
  have ee:(u++v).getD i undef=u.getD i undef:=by simp[Array.getD_eq_getD_getElem?,Array.getElem?_append,hu,hi]
  rw[ee];exact this
 ·rw[List.getElem?_append_right (by omega)] at hd
  have:=q.2 _ d hd
  have ee:(u++v).getD i undef=v.getD (i-cs.length) undef:=by simp[Array.getD_eq_getD_getElem?,Array.getElem?_append,hu,hi]
  rw[ee];exact this
structure SrcC (P:Program) (γ:Gh) (w:World) (sz:Nat) (x:Value) (m:Nat) (ds:List D) (news:Array Value):Prop where
 len:∀w',(Builtin.lenOf x).run P w'= .ok m w'
 cells:∀w',(∀ad,w'.cell? ad=w.cell? ad)→(Builtin.firstCells sz m x).run P w'= .ok news w'
 rep:RepL γ news ds
 one:∀c∈ds,c.one=true
 size:news.size=m*sz
theorem SrcC.ones{γ:Gh}{w:World}{sz:Nat}{x:Value}{m:Nat}{ds:List D}{news:Array Value}(S:SrcC P γ w sz x m ds news):∀v∈news.toList,v.oneCell'=true:=by
 intro v hv
 obtain⟨k,hk⟩:=List.getElem?_of_mem hv
 have hk':news[k]? =some v:=by simpa using hk
 have hlt:k<ds.length:=by rw[←S.rep.1];exact(Array.getElem?_eq_some_iff.1 hk').1
 have hd:=List.getElem?_eq_getElem hlt
 have q:=S.rep.2 k _ hd
 have :news.getD k undef=v:=by simp[Array.getD_eq_getD_getElem?,hk']
 rw[this] at q
 exact q.oneCell (S.one _ (List.mem_of_getElem? hd))
theorem box_src(I:Inv G γ H w){i off n sz b c:Nat}(hb:γ.boxes[i]? =some b){cs:List D}(hcs:H.bx[i]? =some cs)(hm:isMapC cs=false)(hfit:off+n*sz≤cs.length):
    ∃news,SrcC P γ w sz (.slice (some ⟨b,off,none⟩) n c) n (sub cs off (off+n*sz)) news:=by
 obtain⟨vs,T,fr,q1,q2,q3,_⟩:=I.box i b cs hb hcs
 rw[viewC_of hm] at q1
 have q3:=q3 hm
 have hsl:(sub cs off (off+n*sz)).length=n*sz:=by rw[sub_length _ _ _ hfit];omega
 refine⟨((List.range (n*sz)).map fun k=>vs.getD (off+k) undef).toArray,⟨fun w'=>by simp[Builtin.lenOf],fun w' hw'=>?_,⟨by simp[hsl],fun k d hd=>?_⟩,fun c hc=>q3 c (sub_mem hc),by simp⟩⟩
 ·refine run_firstCells_some (P:=P) w' sz n _ _ _ _ (by simp) (fun j v hj=>?_)
  have hlt:j<n*sz:=by have:=(List.getElem?_eq_some_iff.1 hj).1;simpa using this
  have hv:vs.getD (off+j) undef=v:=by simpa[hlt] using hj
  have hvs:off+j<vs.size:=by have:=q2.1;omega
  rw[Addr.add_lit,hw',←hv]
  simp[World.cell?,q1,hvs,Array.getD_eq_getD_getElem?]
 ·have hlt:k<n*sz:=by rw[←hsl];exact(List.getElem?_eq_some_iff.1 hd).1
  rw[sub_get,if_pos (by omega)] at hd
  have:=q2.2 _ d hd
  have e1:(((List.range (n*sz)).map fun k=>vs.getD (off+k) undef).toArray).getD k undef=vs.getD (off+k) undef:=by
   simp[Array.getD_eq_getD_getElem?,hlt]
  rw[e1];exact this
theorem RepL.toL{γ:Gh}{vs:Array Value}{ds:List D}(h:RepB γ vs ds)(he:vs.size=ds.length):RepL γ vs ds:=⟨he,h.2⟩
theorem srcC_of(I:Inv G γ H w){sz:Nat}(hs:0<sz){v:Value}{d:D}(r:RepD γ v d){m:Nat}{ds:List D}(h:srcC H sz d=some (m,ds)):∃news,SrcC P γ w sz v m ds news:=by
 unfold srcC at h
 split at h
 ·rename_i i off n cap sz'
  split at h
  ·rename_i hsz
   subst hsz
   split at h
   ·rename_i cs hcs
    split at h
    ·rename_i hc
     cases h
     cases r with
     |msl _ _ _ _ _ b c hb _ _=>exact box_src I hb hcs hc.1 hc.2
    ·cases h
   ·cases h
  ·cases h
 ·rename_i i e n sz'
  split at h
  ·rename_i hsz
   subst hsz
   split at h
   ·rename_i cs hcs
    split at h
    ·rename_i hc
     cases h
     cases r with
     |gsl _ _ _ _ b c hb _ _ _ _=>exact box_src I hb hcs hc.1 hc.2
    ·cases h
   ·cases h
  ·cases h
 ·obtain⟨es,hes,heq⟩:=Option.map_eq_some_iff.1 h
  cases heq
  obtain⟨⟨news,S⟩,_⟩:=src_of (P:=P) I hs r hes
  obtain⟨q1,q2⟩:=RepE.flat S.rep (tail:=#[]) γ rfl
  have hsz:=S.rep.1
  refine⟨news,⟨S.len,S.cells,RepL.toL (by simpa using q1) ?_,q2,hsz⟩⟩
  rw[List.length_map,flat_len es fun e he=>(S.rep.2.1 e he).1,hsz]
section
variable {t u ty e : TypeId} {i : TypeInfo} {z : Value} {du : TypeDesc} (ht : P.underlying t = some (.slice e)) (hu : P.underlying u = some du) (hdu : (∃ e', du = .slice e') ∨ du = .string) (hi : P.info? e = some i) (hz : i.zero = some z)
 {x:Value} {m:Nat} {ds:List D} {news:Array Value} (S:SrcC P γ w i.size x m ds news)
include ht hu hdu hi S
theorem runC_zero(h0:m=0)(base:Option Addr)(n cap:Nat)(hc:n≤cap):(Builtin.append_ #[t,u] ty #[.slice base n cap,x]).run P w= .ok (.slice base n cap) w:=by
 subst h0
 have hn:news= #[]:=Array.eq_empty_of_size_eq_zero (by have:=S.size;omega)
 subst hn
 have hl:=S.len w
 have hcs:=S.cells w (fun _=>rfl)
 rcases hdu with⟨e',rfl⟩ |rfl<;>cases base<;>simp[Builtin.append_,run_underlying ht,run_underlying hu,sizeOf,typeInfo,hi,hl,hc,hcs,storeCells]
theorem runC_place(g off n cap T:Nat)(cur:Array Value)(fr:Nat×Nat)(hg:w.heap[g]? =some (.cells cur T fr))(hun:clear fr (off+n*i.size) cur.size)(hroom:n+m≤cap)(hfit:off+n*i.size+news.size≤cur.size):
    (Builtin.append_ #[t,u] ty #[.slice (some ⟨g,off,none⟩) n cap,x]).run P w=
     .ok (.slice (some ⟨g,off,none⟩) (n+m) cap) (w.setRow g (cur.toList.take (off+n*i.size)++news.toList++cur.toList.drop (off+n*i.size+news.size)).toArray):=by
 have hl:=S.len w
 have hcs:=S.cells w (fun _=>rfl)
 have hst:=run_storeCells_fr (P:=P) g (off+n*i.size) T fr news.toList 0 cur w hg (by simpa using hun) (by simpa using hfit) S.ones
 simp only[Nat.add_zero,Array.length_toList] at hst
 rcases hdu with⟨e',rfl⟩ |rfl<;>simp[Builtin.append_,run_underlying ht,run_underlying hu,sizeOf,typeInfo,hi,hl,hroom,hcs,Addr.add_lit,hst]
include hz
theorem runC_new(base:Option Addr)(n cap:Nat)(olds:Array Value)(hold:∀w',(∀ad,w'.cell? ad=w.cell? ad)→(Builtin.firstCells i.size n (.slice base n cap)).run P w'= .ok olds w')
    (hno:cap<n+m) (h63:((n+m:Nat):Int)≤9223372036854775807) (hb:(n+m)*i.bytes≤140737488355328):
    (Builtin.append_ #[t,u] ty #[.slice base n cap,x]).run P w=
     .ok (.slice (some ⟨w.heap.size,0,none⟩) (n+m) (grownCap w (n+m) cap e))
      (w.drew.alloc (.cells (olds++news++Builtin.zeroCells z.cells (grownCap w (n+m) cap e-(n+m))) e)):=by
 have hl:=S.len w
 have hcs:=S.cells w.drew (fun _=>rfl)
 have hos:=hold w.drew (fun _=>rfl)
 have hn:¬(n+m≤cap):=by omega
 have h63':¬(9223372036854775807<((n:Int)+(m:Int))):=by omega
 have h48':¬(281474976710656<Builtin.nextslicecap (n+m) cap*i.bytes):=by have:=growslice_fits hno hb;omega
 rcases hdu with⟨e',rfl⟩ |rfl<;>simp[Builtin.append_,run_underlying ht,run_underlying hu,sizeOf,typeInfo,zeroValue,hi,hz,hl,hn,h63',h48',Question.forced,hos,hcs,newRow,grownCap]
end
theorem repB_grow{γ:Gh}{u news tail:Array Value}{cs ds:List D}(hu:u.size=cs.length)(r:RepB γ u cs)(q:RepL γ news ds):RepB γ (u++(news++tail)) (cs++ds):=by
 refine RepB.appendL hu r ⟨by have:=q.1;simp;omega,fun k d hd=>?_⟩
 have hk:k<news.size:=by rw[q.1];exact(List.getElem?_eq_some_iff.1 hd).1
 have ee:(news++tail).getD k undef=news.getD k undef:=by simp[Array.getD_eq_getD_getElem?,Array.getElem?_append,hk]
 rw[ee];exact q.2 k d hd
theorem repB_take{γ:Gh}{vs:Array Value}{cs:List D}(q:RepB γ vs cs)(k:Nat)(hk:k≤cs.length):RepB γ (vs.toList.take k).toArray (cs.take k):=by
 have:=q.1
 refine⟨by simp;omega,fun j d hd=>?_⟩
 rw[List.getElem?_take] at hd
 split at hd
 ·rename_i hj
  have ee:(vs.toList.take k).toArray.getD j undef=vs.getD j undef:=by
   simp only[Array.getD_eq_getD_getElem?,List.getElem?_toArray,List.getElem?_take,if_pos hj]
   simp
  rw[ee];exact q.2 j d hd
 ·cases hd
theorem done_appendg(I:Inv G γ H w)(E:EnvRep γ env a.tmps){t u e:TypeId}{s x:Operand}{s' x':Opd}{i:TypeInfo}{z:Value}{du:TypeDesc}(ho:o.op= .call {callee:=.builtin .append,args:=#[s,x],argTypes:=#[t,u]})
    (ht:P.underlying t=some (.slice e)) (hu:P.underlying u=some du) (hdu:(∃e',du= .slice e')∨du= .string) (hi:P.info? e=some i) (hz:i.zero=some z) (hzs:z.cells.size=i.size) (hsp:0<i.size)
    (hs:opdOf s=some s') (hx:opdOf x=some x') {d:D} {H':Hp} (he:evK G env H (.appendg e i.size i.bytes s' x')=some (d,H')):Done P G γ H w a o d H':=by
 have hsr:=opdOf_rep E hs
 have hxr:=opdOf_rep E hx
 simp only[evK] at he
 split at he
 ·rename_i m ds hxs
  obtain⟨news,S⟩:=srcC_of (P:=P) I hsp hxr hxs
  have fin:∀v' w',(Builtin.append_ #[t,u] o.type #[a.eval s,a.eval x]).run P w= .ok v' w'→(execOp a.eval o).run P w= .ok (.value v') w':=by
   intro v' w' h
   simp[execOp,ho,resolve,invoke,builtin,h]
  have hnews:=S.size
  have hdl:ds.length=m*i.size:=by rw[←S.rep.1,hnews]
  have fresh:∀(γ1:Gh) (H1:Hp) (base:Option Addr) (n cap:Nat) (olds:Array Value) (cs:List D),γ.le γ1→Frame γ H w γ1 H1 w→Inv G γ1 H1 w→a.eval s= .slice base n cap→cap<n+m→roomy (n+m) i.bytes=true→
      (∀w',(∀ad,w'.cell? ad=w.cell? ad)→(Builtin.firstCells i.size n (.slice base n cap)).run P w'= .ok olds w')→olds.size=cs.length→olds.size=n*i.size→RepB γ1 olds cs→(∀c∈cs,c.one=true)→
      Done P G γ H w a o (.gsl H1.bx.length e (n+m) i.size) {H1 with bx:=H1.bx++[cs++ds]}:=by
   intro γ1 H1 base n cap olds cs L1 F1 I1 hv hno hroom hold hol hos hrep hone
   have hroom':n+m≤140737488355328∧(n+m)*i.bytes≤140737488355328:=by simpa[roomy] using hroom
   have hml:n+m≤maxLen:=by simp only[maxLen];omega
   have hrun:=runC_new (ty:=o.type) ht hu hdu hi hz S base n cap olds hold hno (by omega) hroom'.2
   have hge:=grownCap_ge w (n+m) cap e
   have hgm:=grownCap_le_maxLen w (n+m) cap e hml
   have hsize:(olds++news++Builtin.zeroCells z.cells (grownCap w (n+m) cap e-(n+m))).size=grownCap w (n+m) cap e*i.size:=by
    simp only[Array.size_append,size_zeroCells,hzs,hos,hnews,←Nat.add_mul]
    congr 1;omega
   have hrep2:RepB γ1 (olds++news++Builtin.zeroCells z.cells (grownCap w (n+m) cap e-(n+m))) (cs++ds):=by
    rw[Array.append_assoc]
    exact repB_grow hol hrep (S.rep.mono L1)
   obtain⟨γ',a1,a2,a5,a3,a4⟩:=I1.drew.newBoxT e (fun _ h _ _=>hrep2.mono h) (fun c hc=>by
    rcases List.mem_append.1 hc with h |h
    ·exact hone c h
    ·exact S.one c h)
   rw[hsize] at a5
   exact⟨_,_,γ',.inl (fin _ _ (by rw[hv];exact hrun)),L1.trans a1,((F1.trans L1.base (Frame.drew γ1 H1 w)).trans L1.base a3),a4,.gsl _ _ _ _ _ _ (by simpa using a2) hge hgm (k:=0) (by decide) a5⟩
  have inpl:∀(k b off n cap:Nat) (cs:List D) (d':D),a.eval s= .slice (some ⟨b,off,none⟩) n cap→n+m≤cap→0<m→γ.boxes[k]? =some b→H.bx[k]? =some cs→isMapC cs=false→off+(n+m)*i.size≤cs.length→
      (RepD γ (.slice (some ⟨b,off,none⟩) (n+m) cap) d')→
      Done P G γ H w a o d' {H with bx:=H.bx.set k (splice cs (off+n*i.size) ds)}:=by
   intro k b off n cap cs d' hv hroom hm0 hb hcs hmc hfit hd'
   obtain⟨vs,T,fr,q1,q2,q3,q4⟩:=I.box k b cs hb hcs
   rw[viewC_of hmc] at q1
   have q3:=q3 hmc
   have hpos:0<(n+m)*i.size:=Nat.mul_pos (by omega) hsp
   have hcn:cs≠[]:=fun h=>by subst h;simp at hfit;omega
   have q4:=q4 hcn
   have hfit':off+n*i.size+news.size≤cs.length:=by
    have e1:off+n*i.size+m*i.size=off+(n+m)*i.size:=by rw[Nat.add_mul];omega
    omega
   have hrun:=runC_place (ty:=o.type) ht hu hdu hi S b off n cap T vs fr q1 (fun k hk hk2=>q4 k (Nat.zero_le _) hk2) hroom (by have:=q2.1;omega)
   obtain⟨F,J⟩:=I.store hb hcs (us:=news.toList) (ds:=ds) (by simpa using S.rep) S.one (off:=off+n*i.size) (by rw[hdl,←hnews];exact hfit') q1 q4 q2 hmc hcn
   exact⟨_,_,γ,.inl (fin _ _ (by rw[hv];exact hrun)),.refl γ,by simpa using F,by simpa using J,hd'⟩
  unfold appendgD at he
  split at he
  ·rename_i k e' n sz' hn
   split at he
   ·rename_i hcond
    obtain⟨rfl,rfl⟩:=hcond
    have hsr':=hsr
    rw[hn] at hsr'
    generalize hv:a.eval s=v at hsr'
    cases hsr' with
    |gsl _ _ _ _ b c hb hcc hcm hk2 hty=>
     split at he
     ·rename_i hm0
      cases he
      exact .same I (fin _ _ (by rw[hv];exact runC_zero (ty:=o.type) ht hu hdu hi S hm0 _ n c hcc)) (by rw[hv] at hsr;exact hsr)
     ·rename_i hm0
      split at he
      ·rename_i cs hcs
       split at he
       ·rename_i hc2
        obtain⟨hmc,hlen,hcn⟩:=hc2
        obtain⟨vs,T,fr,q1,q2,q3,q4⟩:=I.box k b cs hb hcs
        rw[viewC_of hmc] at q1
        have q3:=q3 hmc
        have q4:=q4 hcn
        obtain⟨vs',fr',z1,z2,z3⟩:=I.tys b _ _ hty
        rw[Nat.mul_add_div (by decide:0<2),Nat.div_eq_of_lt hk2,Nat.add_zero] at z1
        rw[q1] at z1
        cases z1
        split at he
        ·rename_i hfit
         cases he
         have hroom:n+m≤c:=by
          have h1:(n+m)*i.size≤c*i.size:=by have:=q2.1;omega
          exact Nat.le_of_mul_le_mul_right h1 hsp
         have:=inpl k b 0 n c cs (.gsl k e' (n+m) i.size) hv hroom (by omega) hb hcs hmc (by omega) (.gsl _ _ _ _ b c hb hroom hcm hk2 hty)
         simpa using this
        ·rename_i hfit
         split at he
         ·rename_i hroom
          cases he
          have hrep0:=repB_take q2 (n*i.size) hlen
          have hol:(vs.toList.take (n*i.size)).toArray.size=n*i.size:=by have:=q2.1;simp;omega
          have htl:(cs.take (n*i.size)).length=n*i.size:=by simp;omega
          by_cases hfc:n+m≤c
          ·
           have hcur:n*i.size+news.size≤vs.size:=by
            rw[hnews,z2,←Nat.add_mul];exact Nat.mul_le_mul_right _ hfc
           have hrun:=runC_place (ty:=o.type) ht hu hdu hi S b 0 n c _ vs fr q1 (fun k hk hk2=>q4 k (Nat.zero_le _) hk2) hfc (by omega)
           simp only[Nat.zero_add] at hrun
           have hsz2:(vs.toList.take (n*i.size)++news.toList++vs.toList.drop (n*i.size+news.size)).toArray.size=vs.size:=by simp;omega
           have hrep:RepB γ (vs.toList.take (n*i.size)++news.toList++vs.toList.drop (n*i.size+news.size)).toArray (cs.take (n*i.size)++ds):=by
            have e1:(vs.toList.take (n*i.size)++news.toList++vs.toList.drop (n*i.size+news.size)).toArray=(vs.toList.take (n*i.size)).toArray++(news++(vs.toList.drop (n*i.size+news.size)).toArray):=by
             apply Array.ext'
             simp
            rw[e1]
            exact repB_grow (by rw[hol,htl]) hrep0 S.rep
           obtain⟨g1,g2,g3⟩:=I.growBox hb hcs hcn hmc q1 q4 hsz2 hty hrep (fun c hc=>by
            rcases List.mem_append.1 hc with h |h
            ·exact q3 c (List.mem_of_mem_take h)
            ·exact S.one c h)
           refine⟨_,_,_,.inl (fin _ _ (by rw[hv];exact hrun)),g1,g2,g3,.gsl _ _ _ _ b c ?_ hfc hcm hk2 hty⟩
           show(γ.boxes++[b])[H.bx.length]? =some b
           rw[←I.lenB];simp
          ·have hold:∀w',(∀ad,w'.cell? ad=w.cell? ad)→(Builtin.firstCells i.size n (.slice (some ⟨b,0,none⟩) n c)).run P w'= .ok (vs.toList.take (n*i.size)).toArray w':=fun w' hw'=>by
            refine run_firstCells_some (P:=P) w' i.size n _ _ _ _ (by have:=q2.1;simp;omega) (fun j v hj=>?_)
            rw[Addr.add_lit,hw']
            rw[List.getElem?_take] at hj
            split at hj
            ·simp only[World.cell?,q1,Nat.zero_add]
             simpa using hj
            ·cases hj
           obtain⟨f1,I1⟩:=I.retire hb hcs hcn hty
           have:=fresh γ {H with bx:=H.bx.set k []} (some ⟨b,0,none⟩) n c (vs.toList.take (n*i.size)).toArray (cs.take (n*i.size)) (.refl γ) f1 I1 hv (by omega) hroom hold (by rw[hol,htl]) hol hrep0 (fun c hc=>q3 c (List.mem_of_mem_take hc))
           simpa using this
         ·cases he
       ·cases he
      ·cases he
   ·cases he
  ·rename_i k off n c sz' hn
   split at he
   ·rename_i hsz
    subst hsz
    have hsr':=hsr
    rw[hn] at hsr'
    generalize hv:a.eval s=v at hsr'
    cases hsr' with
    |msl _ _ _ _ _ b c' hb hcc hcap=>
     have hcap:=hcap c rfl
     subst hcap
     split at he
     ·rename_i hm0
      cases he
      exact .same I (fin _ _ (by rw[hv];exact runC_zero (ty:=o.type) ht hu hdu hi S hm0 _ n _ hcc)) (by rw[hv] at hsr;exact hsr)
     ·rename_i hm0
      split at he
      ·rename_i cs hcs
       split at he
       ·rename_i hc2
        obtain⟨hmc,hlen⟩:=hc2
        split at he
        ·rename_i hroom
         split at he
         ·rename_i hfit
          cases he
          exact inpl k b off n _ cs _ hv hroom (by omega) hb hcs hmc hfit (.msl _ _ _ _ _ b _ hb hroom (fun k hk=>by cases hk;rfl))
         ·cases he
        ·rename_i hroom
         split at he
         ·rename_i hrm
          cases he
          obtain⟨olds,So⟩:=box_src (P:=P) (c:=c') I (sz:=i.size) hb hcs hmc hlen
          exact fresh γ H _ n _ olds _ (.refl γ) (.refl γ H w) I hv (by omega) hrm So.cells (by rw[So.rep.1]) So.size So.rep.toB So.one
         ·cases he
       ·cases he
      ·cases he
   ·cases he
  ·split at he
   ·rename_i es hes
    have hfull:∃base,a.eval s= .slice base es.length es.length∧RepP γ.mem (.slice base es.length es.length) (.slice i.size es):=by
     unfold fullD at hes
     split at hes
     ·rename_i hn
      cases hes
      rw[hn] at hsr
      exact⟨none,hsr.p_inv.nils_inv,.sl0 _ _ _⟩
     ·rename_i sz' hn
      split at hes
      ·rename_i hsz
       subst hsz
       cases hes
       rw[hn] at hsr
       generalize a.eval s=v at hsr
       cases hsr with
       |esl ad _=>exact⟨ad,rfl,.sl0 _ _ _⟩
      ·cases hes
     ·rename_i e' sz' es' hn
      split at hes
      ·rename_i hsz
       subst hsz
       cases hes
       rw[hn] at hsr
       generalize a.eval s=v at hsr
       cases hsr with
       |fsl b n _ _ _ hb hty hlen hrep=>subst hlen;exact⟨_,rfl,hrep⟩
      ·cases hes
     ·rename_i sz' es' hn
      split at hes
      ·rename_i hsz
       subst hsz
       cases hes
       rw[hn] at hsr
       generalize a.eval s=v at hsr
       cases hsr with
       |csl ad n _ _ hlen hrep=>subst hlen;exact⟨_,rfl,hrep⟩
      ·cases hes
     ·cases hes
    obtain⟨base,hv,hrep⟩:=hfull
    split at he
    ·rename_i hm0
     cases he
     exact .same I (fin _ _ (by rw[hv];exact runC_zero (ty:=o.type) ht hu hdu hi S hm0 _ _ _ (Nat.le_refl _))) (by rw[hv] at hsr;exact hsr)
    ·rename_i hm0
     split at he
     ·rename_i hroom
      cases he
      obtain⟨olds,So⟩:=elems_src (P:=P) I hsp hrep
      obtain⟨q1,q2⟩:=RepE.flat So.rep (tail:=#[]) γ rfl
      have hol:=So.rep.1
      have hfl:((es.flatMap PD.cells).map D.p).length=es.length*i.size:=by rw[List.length_map,flat_len es fun e he=>(So.rep.2.1 e he).1]
      exact fresh γ H base es.length es.length olds _ (.refl γ) (.refl γ H w) I hv (by omega) hroom So.cells (by rw[hfl,hol]) hol (by simpa using q1) q2
     ·cases he
   ·cases he
 ·cases he
theorem done_makesl(I:Inv G γ H w)(E:EnvRep γ env a.tmps){t e:TypeId}{l c:Operand}{l' c':Opd}{i:TypeInfo}{z:PD}(ho:o.op= .makeSlice t l c)(ht:P.underlying t=some (.slice e))(hi:P.info? e=some i)(hz:zeroOf P e=some z)
    (hl:opdOf l=some l') (hc:opdOf c=some c') {d:D} {H':Hp} (he:evK G env H (.makesl i.size z i.bytes l' c')=some (d,H')):Done P G γ H w a o d H':=by
 simp only[evK] at he
 unfold makeslD at he
 split at he
 ·rename_i n m hn hm
  split at he
  ·rename_i hcond
   obtain⟨hnm,hroom,hzl,hzo⟩:=hcond
   cases he
   obtain⟨k1,hlv⟩:=asNat?_rep (opdOf_rep E hl) hn
   obtain⟨k2,hcv⟩:=asNat?_rep (opdOf_rep E hc) hm
   obtain⟨v,hiz,q2⟩:∃v,i.zero=some v∧ofV v=some z:=by
    unfold zeroOf at hz
    rw[hi] at hz
    dsimp only at hz
    split at hz
    ·rename_i v hv;exact⟨v,hv,hz⟩
    ·cases hz
   have hv:=ofV_rep γ.mem q2
   have hroom':m≤140737488355328∧m*i.bytes≤140737488355328:=by simpa[roomy] using hroom
   have hb:(i.bytes:Int)*(m:Int)≤281474976710656:=by
    have :m*i.bytes=i.bytes*m:=Nat.mul_comm _ _
    have h2:i.bytes*m≤281474976710656:=by omega
    rw[←Int.natCast_mul]
    omega
   have hrun:=run_make (P:=P) w t e i v ht hi hiz k1 k2 (n:Int) (m:Int) (by omega) (by omega) hb (by omega)
   simp only[Int.toNat_natCast] at hrun
   have zr:RepE γ.mem i.size (madeCells v.cells (m*i.size)) (List.replicate m z):=by
    have:=zeros_rep hv (len:=m) hzl (List.all_eq_true.1 hzo)
    simpa[madeCells] using this
   obtain⟨r1,r2⟩:=RepE.flat zr (tail:=#[]) γ rfl
   obtain⟨γ',a1,a2,_,a3,a4⟩:=I.newBoxT e (vs:=madeCells v.cells (m*i.size)) (cs:=((List.replicate m z).flatMap PD.cells).map .p) (fun _ h _ _=>(show RepB γ _ _ by simpa using r1).mono h) r2
   exact⟨_,_,γ',.inl (by simp[execOp,ho,hlv,hcv,hrun]),a1,a3,a4,.msl _ _ _ _ _ _ _ a2 hnm (fun k hk=>by cases hk;rfl)⟩
  ·cases he
 ·cases he
theorem done_bsliceG(I:Inv G γ H w)(E:EnvRep γ env a.tmps){t e:TypeId}{len n:Nat}{parts:Array (Nat×Operand)}{z:PD}{qs:List (Nat×Nat×Opd)}(ho:o.op= .buildSlice t len parts)(ht:P.underlying t=some (.slice e))
    (hn:szOf P e=some n) (hz:zeroOf P e=some z) (hq:partsOf P (fun i=>some (i*n,n)) parts.toList=some qs) (hlim:len*n≤16777216∧0<n) {d:D} {H':Hp} (he:evK G env H (.bsliceG e n len z qs)=some (d,H')):Done P G γ H w a o d H':=by
 simp only[evK] at he
 split at he
 ·rename_i h1
  obtain⟨h1,h2,h3⟩:=h1
  obtain⟨cs,hcs,hh⟩:=Option.map_eq_some_iff.1 he
  cases hh
  obtain⟨v,q1,q2⟩:=run_zeroOf hz w
  have hv:=ofV_rep γ.mem q2
  have hp:(parts.map fun(x:Nat×Operand)=>(x.1,a.eval x.2)).toList=parts.toList.map fun p=>(p.1,a.eval p.2):=parts_map parts a.eval
  have h0:len*n≠0:=Nat.mul_ne_zero (by omega) (by omega)
  have zr:=zeros_rep hv (len:=len) h1 (List.all_eq_true.1 h2)
  obtain⟨r1,r2⟩:=RepE.flat zr (tail:=#[]) γ rfl
  have r1:RepB γ ((Array.range (len*n)).map fun i=>v.cells[i%v.cells.size]!) (((List.replicate len z).flatMap PD.cells).map D.p):=by simpa using r1
  have hfl:(((List.replicate len z).flatMap PD.cells).map D.p).length=len*n:=by
   rw[List.length_map,flat_len (sz:=n) _ fun e he=>by rw[(List.mem_replicate.1 he).2];exact h1,List.length_replicate]
  obtain⟨cells',c1,c2,c3⟩:=fill_rep E parts.toList qs _ _ cs hq (RepL.toL r1 (by rw[hfl];simp)) r2 hcs
  obtain⟨γ',a1,a2,_,a3,a4⟩:=I.newBoxT e (vs:=cells') (cs:=cs) (fun _ h _ _=>c2.toB.mono h) c3
  refine⟨_,_,γ',.inl ?_,a1,a3,a4,.msl _ _ _ _ _ _ _ a2 (Nat.le_refl _) (fun k hk=>by cases hk;rfl)⟩
  have e1:¬(len*n>2 ^ 24):=by have:=hlim.1;omega
  simp only[execOp,ho,Instr.buildSlice,Sem.run_bind,Result.andThen_ok,run_underlying ht,run_szOf hn,e1,if_false,hp]
  simp[h0,q1,c1,newRow]
 ·cases he
end Go.Vs
namespace Go.Vs
open Go.MapKept
variable {P : Program} {w : World}
structure KeyT (P:Program) (kt kd:Nat):Prop where
 iff:∀{m:Mem} {u v:Value} {x y:PD},RepP m u x→RepP m v y→keyKind x=kd→keyKind y=kd→(keyEq x y=true↔u=v)
 chk:∀{m:Mem} {u:Value} {x:PD} (w:World) (e:Bool),RepP m u x→keyKind x=kd→(Instr.checkKey e 10000 kt u).run P w= .ok () w
 fnd:∀{m:Mem} {u:Value} {x:PD} (es:List MapEntry) (w:World),RepP m u x→keyKind x=kd→(∀e∈es,∃y,RepP m e.key y∧keyKind y=kd)→
  ((Instr.findKey kt u es).run P w= .ok none w∧∀e∈es,e.key≠u)∨∃(j:Nat) (e:MapEntry),(Instr.findKey kt u es).run P w= .ok (some (j,e.val)) w∧es[j]? =some e∧e.key=u
 stay:∀{m:Mem} {u:Value} {x:PD} (w:World),RepP m u x→keyKind x=kd→(Instr.keyThatStays u u).run P w= .ok u w
theorem kindI_inj{a b:IntKind}(h:kindI a=kindI b):a=b:=by cases a<;>cases b<;>first |rfl |cases h
theorem kindI_ge(a:IntKind):10≤kindI a:=by cases a<;>decide
theorem kindI_lt(a:IntKind):kindI a<100:=by cases a<;>decide
theorem keyKind3{x:PD}(h:100≤keyKind x):∃k a b c,x= .agg [.int k a,.int k b,.int k c]∧keyKind x=100+kindI k:=by
 unfold keyKind at h
 split at h
 ·omega
 ·have:=kindI_lt ‹_›;omega
 ·omega
 ·rename_i k a k' b k'' c
  split at h
  ·rename_i hk
   obtain⟨rfl,rfl⟩:=hk
   exact⟨k,a,b,c,rfl,by simp[keyKind]⟩
  ·omega
 ·omega
theorem keyKind_agg(ds:List PD):keyKind (.agg ds)=1∨100≤keyKind (.agg ds):=by
 unfold keyKind
 split
 ·rename_i h;cases h
 ·rename_i h;cases h
 ·rename_i h;cases h
 ·split
  ·right;omega
  ·left;rfl
 ·left;rfl
theorem rep3{m:Mem}{v:Value}{k:IntKind}{a b c:Int}(h:RepP m v (.agg [.int k a,.int k b,.int k c])):v= .agg #[.int k a,.int k b,.int k c]:=by
 obtain⟨cs,rfl,hs,_,hr⟩:=h.agg_inv
 have h0:=(hr 0 _ rfl).int_inv
 have h1:=(hr 1 _ rfl).int_inv
 have h2:=(hr 2 _ rfl).int_inv
 congr 1
 apply Array.ext
 ·simpa using hs
 ·intro i q1 q2
  have hi:i<3:=by simpa using q2
  have e:cs[i]=cs.getD i undef:=by simp[Array.getD_eq_getD_getElem?,q1]
  rw[e]
  match i,hi with
  | 0,_=>exact h0
  | 1,_=>exact h1
  | 2,_=>exact h2
theorem run_check3{kt e:TypeId}{k:IntKind}(ht:P.underlying kt=some (.array 3 e))(he:P.underlying e=some (.int k))(hs:szOf P e=some 1)(em:Bool)(n:Nat)(a b c:Int):
    (Instr.checkKey em (n+2) kt (.agg #[.int k a,.int k b,.int k c])).run P w= .ok () w:=by
 have hg:∀w,(isAgg e).run P w= .ok false w:=fun w=>by simp[isAgg,run_underlying he]
 simp[Instr.checkKey,run_underlying ht,run_underlying he,run_szOf hs,part,hg,Std.Legacy.Range.forIn_eq_forIn_range',Std.Legacy.Range.size,List.range']
theorem run_eqIn3{kt e:TypeId}{k:IntKind}(ht:P.underlying kt=some (.array 3 e))(he:P.underlying e=some (.int k))(hs:szOf P e=some 1)(n:Nat)(a b c x y z:Int):
    (Op.equalIn (n+1+1) kt (.agg #[.int k a,.int k b,.int k c]) (.agg #[.int k x,.int k y,.int k z])).run P w= .ok (a==x&&b==y&&c==z) w:=by
 have hg:∀w,(isAgg e).run P w= .ok false w:=fun w=>by simp[isAgg,run_underlying he]
 have e1:∀(p q:Int) (w:World),(Op.equalIn (n+1) e (.int k p) (.int k q)).run P w= .ok (p==q) w:=fun p q w=>by simp[Op.equalIn,run_underlying he]
 rw[Op.equalIn]
 by_cases h1:a=x<;>by_cases h2:b=y<;>by_cases h3:c=z<;>
  simp[run_underlying ht,run_szOf hs,part,hg,Std.Legacy.Range.forIn_eq_forIn_range',Std.Legacy.Range.size,List.range',e1,h1,h2,h3]
theorem run_eq3{kt e:TypeId}{k:IntKind}(ht:P.underlying kt=some (.array 3 e))(he:P.underlying e=some (.int k))(hs:szOf P e=some 1)(a b c x y z:Int):
    (Op.equal kt (.agg #[.int k a,.int k b,.int k c]) (.agg #[.int k x,.int k y,.int k z])).run P w= .ok (a==x&&b==y&&c==z) w:=
 run_eqIn3 ht he hs 9998 a b c x y z
theorem run_asking3{kt e:TypeId}{k:IntKind}(ht:P.underlying kt=some (.array 3 e))(he:P.underlying e=some (.int k))(hs:szOf P e=some 1)(a b c:Int):
    ∀(es:List MapEntry) (i:Nat),(∀e∈es,∃x y z,e.key= .agg #[.int k x,.int k y,.int k z])→
     ((Instr.findAsking kt (.agg #[.int k a,.int k b,.int k c]) es i).run P w= .ok none w∧∀e∈es,e.key≠.agg #[.int k a,.int k b,.int k c])∨
     ∃(j:Nat) (e:MapEntry),(Instr.findAsking kt (.agg #[.int k a,.int k b,.int k c]) es i).run P w= .ok (some (i+j,e.val)) w∧es[j]? =some e∧e.key= .agg #[.int k a,.int k b,.int k c]
 |[],i,_=>.inl ⟨by simp[Instr.findAsking],fun e h=>by simp at h⟩
 |m::es,i,h=>by
  obtain⟨x,y,z,hm⟩:=h m (by simp)
  have hq:=run_eq3 (w:=w) ht he hs a b c x y z
  cases hb:(a==x&&b==y&&c==z) with
  |true=>
   refine .inr ⟨0,m,?_,rfl,?_⟩
   ·simp[Instr.findAsking,hm,hq,hb]
   ·simp at hb
    rw[hm,hb.1.1,hb.1.2,hb.2]
  |false=>
   have hne:m.key≠.agg #[.int k a,.int k b,.int k c]:=fun he=>by
    rw[hm] at he
    simp at he
    simp[he] at hb
   rcases run_asking3 ht he hs a b c es (i+1) (fun e h'=>h e (by simp[h'])) with⟨q1,q2⟩ |⟨j,e,q1,q2,q3⟩
   ·refine .inl ⟨by simp[Instr.findAsking,hm,hq,hb,q1],fun e h'=>?_⟩
    rcases List.mem_cons.1 h' with rfl |h'
    ·exact hne
    ·exact q2 e h'
   ·refine .inr ⟨j+1,e,?_,q2,q3⟩
    simp[Instr.findAsking,hm,hq,hb,q1]
    omega
theorem run_find3{kt e:TypeId}(ht:P.underlying kt=some (.array 3 e))(u:Value)(es:List MapEntry):(Instr.findKey kt u es).run P w=(Instr.findAsking kt u es 0).run P w:=by
 cases es with
 |nil=>simp[Instr.findKey,run_underlying ht,Instr.findNow,Instr.findAsking]
 |cons m es=>simp[Instr.findKey,run_underlying ht,Instr.findNow,Instr.sameNow]
theorem key_is{m:Mem}{d:TypeDesc}{kd:Nat}(hd:kindD d=some kd){u:Value}{x:PD}(hu:RepP m u x)(hx:keyKind x=kd)(h1:kd≠1):IsKey d u:=by
 have g:=fun a=>kindI_ge a
 have g2:=fun a=>kindI_lt a
 subst hx
 cases hu
 case agg cs ds hl hone hr=>
  exfalso
  rcases keyKind_agg ds with h |h
  ·exact h1 h
  ·generalize keyKind (.agg ds)=n at h hd
   cases d<;>simp only[kindD,Option.some.injEq,reduceCtorEq] at hd
   ·omega
   ·have:=g2 ‹_›;omega
   ·omega
 all_goals cases d<;>simp only[kindD,Option.some.injEq,reduceCtorEq] at hd<;>simp only[keyKind] at hd h1<;>
  first
   |trivial
   |exact kindI_inj hd.symm
   |(exfalso;have q:=g ‹_›;omega)
   |(exact absurd rfl h1)
theorem keyEq_iff{m:Mem}{u v:Value}{x y:PD}(hu:RepP m u x)(hv:RepP m v y)(hk:keyKind x=keyKind y)(h1:keyKind x≠1):keyEq x y=true↔u=v:=by
 have g:=fun a=>kindI_ge a
 have g2:=fun a=>kindI_lt a
 by_cases h100:100≤keyKind x
 ·obtain⟨k,a,b,c,rfl,e1⟩:=keyKind3 h100
  obtain⟨k',a',b',c',rfl,e2⟩:=keyKind3 (x:=y) (by omega)
  have:=kindI_inj (show kindI k=kindI k' by omega)
  subst this
  rw[rep3 hu,rep3 hv]
  simp[keyEq]
  exact⟨fun⟨⟨p,q⟩,r⟩=>⟨p,q,r⟩,fun⟨p,q,r⟩=>⟨⟨p,q⟩,r⟩⟩
 have hx:∀{ds:List PD},keyKind (.agg ds)<100→keyKind (.agg ds)=1:=fun {ds} h=>by
  rcases keyKind_agg ds with q |q
  ·exact q
  ·omega
 have hy1:keyKind y≠1:=by rw[←hk];exact h1
 have hy100:keyKind y<100:=by omega
 cases hu<;>first |(exfalso;exact h1 rfl) |(exfalso;exact h1 (hx (by omega))) |skip
 all_goals cases hv<;>first |(exfalso;exact hy1 (hx hy100)) |(exfalso;simp only[keyKind] at hk;omega) |(exfalso;simp only[keyKind] at hk;have q:=g ‹_›;omega) |skip
 ·simp[keyEq]
 ·have:=kindI_inj hk
  subst this
  simp[keyEq]
 ·simp[keyEq]
theorem keyT_of{kt kd:Nat}(h:kindOf P kt=some kd)(h1:kd≠1):KeyT P kt kd:=by
 have hiff:∀{m:Mem} {u v:Value} {x y:PD},RepP m u x→RepP m v y→keyKind x=kd→keyKind y=kd→(keyEq x y=true↔u=v):=fun hu hv hx hy=>keyEq_iff hu hv (hx.trans hy.symm) (by rw[hx];exact h1)
 unfold kindOf at h
 split at h
 ·rename_i e ht
  split at h
  ·rename_i k he hs
   cases h
   have get:∀{m:Mem} {u:Value} {x:PD},RepP m u x→keyKind x=100+kindI k→∃a b c,u= .agg #[.int k a,.int k b,.int k c]:=fun {m u x} hu hx=>by
    obtain⟨k',a,b,c,rfl,e1⟩:=keyKind3 (x:=x) (by omega)
    have:=kindI_inj (show kindI k=kindI k' by omega)
    subst this
    exact⟨a,b,c,rep3 hu⟩
   refine⟨hiff,fun {m u x} w em hu hx=>?_,fun {m u x} es w hu hx hes=>?_,fun {m u x} w hu hx=>?_⟩
   ·obtain⟨a,b,c,rfl⟩:=get hu hx
    exact run_check3 ht he hs em 9998 a b c
   ·obtain⟨a,b,c,rfl⟩:=get hu hx
    rw[run_find3 ht]
    have:=run_asking3 (w:=w) ht he hs a b c es 0 (fun e h=>by
     obtain⟨y,q1,q2⟩:=hes e h
     exact get q1 q2)
    simpa using this
   ·obtain⟨a,b,c,rfl⟩:=get hu hx
    simp[Instr.keyThatStays,Instr.sameBits]
  ·cases h
 ·rename_i d hne hd
  have ik:∀{m:Mem} {u:Value} {x:PD},RepP m u x→keyKind x=kd→IsKey d u:=fun hu hx=>key_is h hu hx h1
  refine⟨hiff,fun w em hu hx=>run_checkKey hd (ik hu hx) em 9999,fun {m u x} es w hu hx hes=>?_,fun w hu hx=>run_keyThatStays (ik hu hx)⟩
  rcases findNow_spec (ik hu hx) es 0 (fun e h=>by obtain⟨y,q1,q2⟩:=hes e h;exact ik q1 q2) with⟨q1,q2⟩ |⟨j,e,q1,q2,q3⟩
  ·exact .inl ⟨run_findKey hd q1,q2⟩
  ·exact .inr ⟨j,e,by simpa using run_findKey hd q1,q2,q3⟩
 ·cases h
end Go.Vs
namespace Go.Vs
open Go.MapKept
variable {P : Program} {G : Nat → Option (List PD)} {γ : Gh} {H : Hp} {w : World} {env : Env} {a : Act} {o : Oper}
theorem Inv.newMap(I:Inv G γ H w)(kd:Nat):
    ∃γ',γ.le γ'∧γ'.boxes[H.bx.length]? =some w.heap.size∧Frame γ H w γ' {H with bx:=H.bx++[[.mapc kd [] []]]} (w.alloc (.map #[] 0))∧Inv G γ' {H with bx:=H.bx++[[.mapc kd [] []]]} (w.alloc (.map #[] 0)):=by
 let cs:List D:=[.mapc kd [] []]
 let γ':Gh:={γ with boxes:=γ.boxes++[w.heap.size]}
 have hle:γ.le γ':=⟨rfl,fun c x h=>h,fun _ _ _ h=>h,fun i b h=>by
  have hi:i<γ.boxes.length:=(List.getElem?_eq_some_iff.1 h).1
  show(γ.boxes++[w.heap.size])[i]? =some b
  rw[List.getElem?_append_left hi];exact h,fun t r h=>⟨r,h,rfl,rfl,fun _ _ h=>h⟩⟩
 have hfree:∀t b,Free γ' {H with bx:=H.bx++[cs]} t b→Free γ H t b:=fun t b h=>Free.congr (fun _ _ h=>h) (fun _ _ h=>h) h
 have hbx:γ'.boxes[H.bx.length]? =some w.heap.size:=by
  show(γ.boxes++[w.heap.size])[H.bx.length]? =_
  rw[←I.lenB];simp
 refine⟨γ',hle,hbx,?_,?_⟩
 ·refine⟨rfl,rfl,rfl,by simp,fun b hb _=>?_,fun b o _ _=>rfl,fun b hb=>?_,fun t b hb=>.inl (hfree t b hb),fun b hb=>by
  rcases List.mem_append.1 (show b∈γ.boxes++[w.heap.size] from hb) with h |h
  ·exact .inl h
  ·exact .inr (by simp at h;omega)⟩
  ·rw[heap_alloc,if_neg (by omega)];exact⟨fun _=>rfl,.refl _ _⟩
  ·rcases Lv.push (γ':=γ') (H':={H with bx:=H.bx++[cs]}) I.lenB rfl rfl hb with h |h
   ·exact .inl h
   ·exact .inr (by omega)
 ·constructor
  ·have:=I.size
   show γ.base≤(w.alloc (.map #[] 0)).heap.size
   simp;omega
  ·intro b T' n hb
   obtain⟨us,fr,h2,h3⟩:=I.tys b T' n hb
   have:=(Array.getElem?_eq_some_iff.1 h2).1
   exact⟨us,fr,by rw[heap_alloc,if_neg (by omega)];exact h2,h3⟩
  ·exact I.rowb
  ·intro b o v h
   have hlt:=I.lt_of_mem h
   rw[cell_eq (w:=w) (by rw[heap_alloc,if_neg (by omega)])]
   exact I.mem b o v h
  ·exact I.globs
  ·show(γ.boxes++[w.heap.size]).length=(H.bx++[cs]).length
   simp[I.lenB]
  ·exact I.nodup_push I.not_lv rfl rfl
  ·intro i b cs' hb hc
   have hb:(γ.boxes++[w.heap.size])[i]? =some b:=hb
   have hc:(H.bx++[cs])[i]? =some cs':=hc
   by_cases hi:i<γ.boxes.length
   ·rw[List.getElem?_append_left hi] at hb
    rw[List.getElem?_append_left (by rw[←I.lenB];exact hi)] at hc
    obtain⟨vs',T',fr',a1,a2,a3⟩:=I.box i b cs' hb hc
    have:=I.lt_of_box (List.mem_of_getElem? hb)
    exact⟨vs',T',fr',by rw[heap_alloc,if_neg (by omega)];exact a1,a2.mono hle,a3⟩
   ·have hi':i=γ.boxes.length:=by
     have:=(List.getElem?_eq_some_iff.1 hb).1
     simp at this;omega
    subst hi'
    rw[List.getElem?_append_right (Nat.le_refl _)] at hb
    rw[I.lenB,List.getElem?_append_right (Nat.le_refl _)] at hc
    simp at hb hc
    subst hb;subst hc
    refine⟨#[.func (.func 0) #[] #[]],0,(0,0),by rw[heap_alloc,if_pos rfl];simp[viewC,cs,isMapC],⟨by simp[cs],fun i d hd=>?_⟩,fun hm=>by simp[cs,isMapC] at hm,fun _ k _ _ hk=>by omega⟩
    match i with
    | 0=>
     simp only[cs,List.getElem?_cons_zero,Option.some.injEq] at hd
     subst hd
     exact .mapc #[] #[] kd [] [] id rfl rfl rfl (fun j h=>by simp at h) (fun j j' h=>by simp at h) (fun j h=>by simp at h) (fun i x h=>by simp at h) (fun i j x y h=>by simp at h) (fun i x h=>by simp at h)
    |i+1=>simp[cs] at hd
  ·intro b o hb
   rcases Lv.push (γ':=γ') (H':={H with bx:=H.bx++[cs]}) I.lenB rfl rfl hb with h |⟨h,_⟩
   ·exact I.boxmem b o h
   ·subst h
    show γ.mem w.heap.size o=none
    cases hm:γ.mem w.heap.size o with
    |none=>rfl
    |some v=>have:=I.lt_of_mem hm;omega
  ·intro i b h1 h2
   have h2:(H.bx++[cs])[i]? =some []:=h2
   have h1:(γ.boxes++[w.heap.size])[i]? =some b:=h1
   rcases push_split I.lenB h1 h2 with⟨a1,a2⟩ |⟨_,_,h⟩
   ·exact I.empt i b a1 a2
   ·simp[cs] at h
  ·exact I.lenT
  ·intro t row f h1 h2
   obtain⟨r,a1,a2⟩:=I.row t row f h1 h2
   refine⟨r,a1,a2.keep hle.tys (fun b cap hr hlt=>?_) (fun b cap hr hlt o=>rfl) (fun b cap hr hlt hb hb'=>?_)⟩
   ·have:=I.lt_of_free ⟨row,f,cap,h1,h2,hr▸a1,hlt⟩
    rw[heap_alloc,if_neg (by omega)]
   ·have hb':b∈γ.boxes++[w.heap.size]:=hb'
    have:=I.lt_of_free ⟨row,f,cap,h1,h2,hr▸a1,hlt⟩
    rcases List.mem_append.1 hb' with h |h
    ·exact hb h
    ·simp at h;omega
  ·exact I.rowmax
  ·intro t t' b h h'
   exact I.free t t' b (hfree t b h) (hfree t' b h')
structure MapRep (γ:Gh) (es:Array MapEntry) (kd:Nat) (ks:List PD) (vs:List D) (s:Nat→Nat):Prop where
 n:es.size=ks.length
 d:vs.length=ks.length
 rng:∀j,j<ks.length→s j<ks.length
 inj:∀j j',j<ks.length→j'<ks.length→s j=s j'→j=j'
 sur:∀m,m<ks.length→∃j,j<ks.length∧s j=m
 key:∀(j:Nat) e x,es[s j]? =some e→ks[j]? =some x→RepP γ.mem e.key x∧keyKind x=kd
 one:∀(j j':Nat) x y,ks[j]? =some x→ks[j']? =some y→keyEq x y=true→j=j'
 val:∀(j:Nat) e d,es[s j]? =some e→vs[j]? =some d→RepD γ e.val d
theorem MapRep.rep{γ:Gh}{es:Array MapEntry}{kd:Nat}{ks:List PD}{vs:List D}{s:Nat→Nat}(M:MapRep γ es kd ks vs s):RepD γ (.func (.func 0) (es.map (·.key)) (es.map (·.val))) (.mapc kd ks vs):=by
 refine .mapc _ _ kd ks vs s (by simp[M.n]) (by simp[M.n]) M.d M.rng M.inj M.sur (fun j x hx=>?_) M.one (fun j d hd=>?_)
 ·have hj:j<ks.length:=(List.getElem?_eq_some_iff.1 hx).1
  have hs:s j<es.size:=by rw[M.n];exact M.rng j hj
  have:=M.key j es[s j] x (by simp[hs]) hx
  simpa[Array.getD_eq_getD_getElem?,hs] using this
 ·have hj:j<ks.length:=by rw[←M.d];exact(List.getElem?_eq_some_iff.1 hd).1
  have hs:s j<es.size:=by rw[M.n];exact M.rng j hj
  have:=M.val j es[s j] d (by simp[hs]) hd
  simpa[Array.getD_eq_getD_getElem?,hs] using this
theorem Inv.mapBlock(I:Inv G γ H w){i b kd:Nat}{ks:List PD}{vs:List D}(hb:γ.boxes[i]? =some b)(hc:H.bx[i]? =some [.mapc kd ks vs]):
    ∃(es:Array MapEntry) (ck:Nat) (s:Nat→Nat),w.heap[b]? =some (.map es ck)∧MapRep γ es kd ks vs s:=by
 obtain⟨us,T,fr,q1,q2,_⟩:=I.box i b _ hb hc
 simp only[viewC,isMapC,if_true] at q1
 split at q1
 ·rename_i es ck hmap
  cases q1
  have:=q2.2 0 _ rfl
  simp only[Array.getD_eq_getD_getElem?] at this
  have this:RepD γ (.func (.func 0) (es.map (·.key)) (es.map (·.val))) (.mapc kd ks vs):=by simpa using this
  cases this with
  |mapc _ _ _ _ _ s hl kl dl hs hj hg hr hd kr=>
   refine⟨es,ck,s,hmap,by simpa using hl,dl,hs,hj,hg,fun j e x he hx=>?_,hd,fun j e d he hd=>?_⟩
   ·have:=hr j x hx
    simpa[Array.getD_eq_getD_getElem?,he] using this
   ·have:=kr j d hd
    simpa[Array.getD_eq_getD_getElem?,he] using this
 ·cases q1
theorem Inv.setMap(I:Inv G γ H w){i b kd kd':Nat}{ks ks':List PD}{vs vs':List D}(hb:γ.boxes[i]? =some b)(hc:H.bx[i]? =some [.mapc kd ks vs]){es es':Array MapEntry}{ck ck':Nat}(hw:w.heap[b]? =some (.map es ck))
    {s':Nat→Nat} (M:MapRep γ es' kd' ks' vs' s'):
    Frame γ H w γ {H with bx:=H.bx.set i [.mapc kd' ks' vs']} {w with heap:=w.heap.setIfInBounds b (.map es' ck')}∧
     Inv G γ {H with bx:=H.bx.set i [.mapc kd' ks' vs']} {w with heap:=w.heap.setIfInBounds b (.map es' ck')}:=by
 have hmem:b∈γ.boxes:=List.mem_of_getElem? hb
 have hlv:Lv γ H b:=⟨i,_,hb,hc,by simp⟩
 have hi:i<H.bx.length:=(List.getElem?_eq_some_iff.1 hc).1
 have hblt:b<w.heap.size:=(Array.getElem?_eq_some_iff.1 hw).1
 have hfree:∀t c,Free γ {H with bx:=H.bx.set i [.mapc kd' ks' vs']} t c→Free γ H t c:=fun t c h=>Free.congr (fun _ _ h=>h) (fun _ _ h=>h) h
 have hoth:∀c,c≠b→(w.heap.setIfInBounds b (.map es' ck'))[c]? =w.heap[c]?:=fun c hne=>by simp[Ne.symm hne]
 refine⟨⟨rfl,rfl,rfl,by simp,fun c _ ho=>by
  show(_→(w.heap.setIfInBounds b (.map es' ck'))[c]? =_)∧Sim _ _ ((w.heap.setIfInBounds b (.map es' ck'))[c]?)
  rw[hoth c (fun e=>ho (.inl (e▸hlv)))];exact⟨fun _=>rfl,.refl _ _⟩,fun _ _ _ _=>rfl,fun c hc'=>.inl (Lv.set hc (by simp) hc'),fun t c h=>.inl (hfree t c h),fun _ h=>.inl h⟩,?_⟩
 constructor
 ·have:=I.size
  simpa using this
 ·intro c T' n hc'
  obtain⟨us',fr',h2,h3⟩:=I.tys c T' n hc'
  have hcb:c≠b:=fun e=>by subst e;rw[hw] at h2;cases h2
  exact⟨us',fr',(hoth c hcb).trans h2,h3⟩
 ·exact I.rowb
 ·intro c o v h
  have hne:c≠b:=fun e=>by subst e;rw[I.boxmem c o hlv] at h;cases h
  rw[cell_eq (w:=w) (hoth c hne)]
  exact I.mem c o v h
 ·exact I.globs
 ·simp[I.lenB]
 ·exact I.nodup_set hc (by simp)
 ·intro j c cs' hj hcs
  by_cases hij:i=j
  ·subst hij
   rw[hb] at hj
   cases hj
   have hcs:(H.bx.set i [.mapc kd' ks' vs'])[i]? =some cs':=hcs
   rw[List.getElem?_set_self hi] at hcs
   cases hcs
   have hnew:(w.heap.setIfInBounds b (.map es' ck'))[b]? =some (.map es' ck'):=by simp[hblt]
   refine⟨#[.func (.func 0) (es'.map (·.key)) (es'.map (·.val))],0,(0,0),?_,⟨by simp,fun k d hd=>?_⟩,fun hm=>by simp[isMapC] at hm,fun _ k _ _ hk=>by omega⟩
   ·show viewC _ ((w.heap.setIfInBounds b (.map es' ck'))[b]?)=_
    rw[hnew];rfl
   ·match k with
    | 0=>
     simp only[List.getElem?_cons_zero,Option.some.injEq] at hd
     subst hd
     exact M.rep
    |k+1=>simp at hd
  ·have hcs:(H.bx.set i [.mapc kd' ks' vs'])[j]? =some cs':=hcs
   rw[List.getElem?_set_ne hij] at hcs
   obtain⟨us',T',fr',a1,a2,a3⟩:=I.box j c cs' hj hcs
   have hne:c≠b:=fun e=>by
    subst e
    have h0:cs'=[]:=Classical.byContradiction fun h0=>hij (I.nodup i j c _ cs' hb hj hc hcs (by simp) h0)
    subst h0
    obtain⟨x,hx⟩:=I.empt j c hj hcs
    obtain⟨us2,fr2,z1,_⟩:=I.tys c x.1 x.2 hx
    rw[hw] at z1;cases z1
   refine⟨us',T',fr',?_,a2,a3⟩
   show viewC _ ((w.heap.setIfInBounds b (.map es' ck'))[c]?)=_
   rw[hoth c hne];exact a1
 ·exact fun c o h=>I.boxmem c o (Lv.set hc (by simp) h)
 ·intro j c hj hcs
  have hcs:(H.bx.set i [.mapc kd' ks' vs'])[j]? =some []:=hcs
  by_cases hij:i=j
  ·subst hij
   rw[List.getElem?_set_self hi] at hcs
   simp at hcs
  ·rw[List.getElem?_set_ne hij] at hcs
   exact I.empt j c hj hcs
 ·exact I.lenT
 ·intro t row f h1 h2
  obtain⟨r,a1,a2⟩:=I.row t row f h1 h2
  refine⟨r,a1,?_⟩
  refine a2.keep (fun _ _ h=>h) (fun c cap hr hlt=>?_) (fun _ _ _ _ _=>rfl) (fun c cap hr hlt h=>h)
  have hne:c≠b:=fun e=>by
   subst e
   subst hr
   obtain⟨cur,_,_,_,_,_,_,hnb⟩:=a2.2 hlt
   exact hnb hmem
  exact hoth c hne
 ·exact I.rowmax
 ·intro t t' c h h'
  exact I.free t t' c (hfree t c h) (hfree t' c h')
theorem findK_some{k:PD}:∀{ks:List PD} {j:Nat},findK k ks=some j→∃x,ks[j]? =some x∧keyEq k x=true
 |a::r,j,h=>by
  simp only[findK] at h
  split at h
  ·rename_i he;cases h;exact⟨a,rfl,he⟩
  ·obtain⟨i,hi,rfl⟩:=Option.map_eq_some_iff.1 h
   obtain⟨x,h1,h2⟩:=findK_some hi
   exact⟨x,by simpa using h1,h2⟩
theorem findK_none{k:PD}:∀{ks:List PD},findK k ks=none→∀(j:Nat) x,ks[j]? =some x→keyEq k x=false
 |[],_,j,x,hx=>by simp at hx
 |a::r,h,j,x,hx=>by
  simp only[findK] at h
  split at h
  ·cases h
  ·rename_i he
   have h:=Option.map_eq_none_iff.1 h
   match j with
   | 0=>simp only[List.getElem?_cons_zero,Option.some.injEq] at hx;subst hx;simpa using he
   |j+1=>exact findK_none h j x (by simpa using hx)
theorem posK_le(c:Nat):∀ks:List PD,posK c ks≤ks.length
 |[]=>Nat.le_refl _
 |a::r=>by simp only[posK];split<;>have:=posK_le c r<;>simp<;>omega
theorem insAt_len{α:Type}(x:α):∀(p:Nat) (l:List α),(insAt p x l).length=l.length+1
 | 0,l=>rfl
 |p+1,[]=>rfl
 |p+1,a::l=>by simp[insAt,insAt_len x p l]
theorem insAt_get{α:Type}(x:α):∀(p:Nat) (l:List α),p≤l.length→∀i,(insAt p x l)[i]? =if i<p then l[i]? else if i=p then some x else l[i-1]?
 | 0,l,_,i=>by
  cases i with
  |zero=>simp[insAt]
  |succ i=>simp[insAt]
 |p+1,[],h,i=>by simp at h
 |p+1,a::l,h,i=>by
  cases i with
  |zero=>simp[insAt]
  |succ i=>
   have:=insAt_get x p l (by simpa using h) i
   simp only[insAt,List.getElem?_cons_succ,this]
   by_cases h1:i<p
   ·rw[if_pos h1,if_pos (show i+1<p+1 by omega)]
   ·rw[if_neg h1,if_neg (show ¬i+1<p+1 by omega)]
    by_cases h2:i=p
    ·rw[if_pos h2,if_pos (show i+1=p+1 by omega)]
    ·rw[if_neg h2,if_neg (show ¬i+1=p+1 by omega)]
     have e:i+1-1=(i-1)+1:=by omega
     rw[e,List.getElem?_cons_succ]
section
variable {es : Array MapEntry} {kd : Nat} {ks : List PD} {vs : List D} {s : Nat → Nat} (M : MapRep γ es kd ks vs s) {kt : Nat} (hdd : KeyT P kt kd) {kv : Value} {k : PD} (hk : RepP γ.mem kv k) (hkk : keyKind k = kd)
include M hdd hk hkk
theorem MapRep.keys:∀x∈es.toList,∃y,RepP γ.mem x.key y∧keyKind y=kd:=by
 have _:=hk
 have _:=hkk
 have _:=hdd
 intro x hx
 obtain⟨m,hm⟩:=List.getElem?_of_mem hx
 have hml:m<ks.length:=by rw[←M.n];simpa using (List.getElem?_eq_some_iff.1 hm).1
 obtain⟨j,hj,rfl⟩:=M.sur m hml
 obtain⟨q1,q2⟩:=M.key j x _ (by simpa using hm) (List.getElem?_eq_getElem hj)
 exact⟨_,q1,q2⟩
theorem MapRep.found{j:Nat}(hf:findK k ks=some j)(w:World):∃e,es[s j]? =some e∧e.key=kv∧(Instr.findKey kt kv es.toList).run P w= .ok (some (s j,e.val)) w:=by
 obtain⟨x,hx,he⟩:=findK_some hf
 have hj:j<ks.length:=(List.getElem?_eq_some_iff.1 hx).1
 have hsj:s j<es.size:=by rw[M.n];exact M.rng j hj
 have heq:es[s j]? =some es[s j]:=by simp[hsj]
 obtain⟨q1,q2⟩:=M.key j _ x heq hx
 have hkey:es[s j].key=kv:=((hdd.iff hk q1 hkk q2).1 he).symm
 refine⟨es[s j],heq,hkey,?_⟩
 rcases hdd.fnd es.toList w hk hkk (M.keys hdd hk hkk) with⟨_,h2⟩ |⟨m,e,h2,h3,h4⟩
 ·exact absurd hkey (h2 _ (by simp))
 ·have hm:m<ks.length:=by rw[←M.n];simpa using (List.getElem?_eq_some_iff.1 h3).1
  obtain⟨j',hj',rfl⟩:=M.sur m hm
  obtain⟨r1,r2⟩:=M.key j' e _ (by simpa using h3) (List.getElem?_eq_getElem hj')
  have hq:keyEq x ks[j']=true:=(hdd.iff q1 r1 q2 r2).2 (hkey.trans h4.symm)
  have:=M.one j j' x _ hx (List.getElem?_eq_getElem hj') hq
  subst this
  have h3:es[s j]? =some e:=by simpa using h3
  rw[heq] at h3
  cases h3
  exact h2
theorem MapRep.missed(hf:findK k ks=none)(w:World):(Instr.findKey kt kv es.toList).run P w= .ok none w:=by
 rcases hdd.fnd es.toList w hk hkk (M.keys hdd hk hkk) with⟨h2,_⟩ |⟨m,e,h2,h3,h4⟩
 ·exact h2
 ·exfalso
  have hm:m<ks.length:=by rw[←M.n];simpa using (List.getElem?_eq_some_iff.1 h3).1
  obtain⟨j',hj',rfl⟩:=M.sur m hm
  obtain⟨r1,r2⟩:=M.key j' e _ (by simpa using h3) (List.getElem?_eq_getElem hj')
  have hq:keyEq k ks[j']=true:=(hdd.iff hk r1 hkk r2).2 h4.symm
  rw[findK_none hf j' _ (List.getElem?_eq_getElem hj')] at hq
  cases hq
theorem MapRep.ins(hf:findK k ks=none){v:Value}{d:D}(hv:RepD γ v d)(ck:Nat){p:Nat}(hp:p≤ks.length):
    MapRep γ (es.push {key:=kv,val:=v,born:=ck}) kd (insAt p k ks) (insAt p d vs) (fun j=>if j<p then s j else if j=p then ks.length else s (j-1)):=by
 have _:=hdd
 have hget:∀m e,(es.push {key:=kv,val:=v,born:=ck})[m]? =some e→if m=ks.length then e.key=kv∧e.val=v else es[m]? =some e:=by
  intro m e hm
  rw[Array.getElem?_push,M.n] at hm
  split at hm
  ·rename_i h;rw[if_pos h];cases hm;exact⟨rfl,rfl⟩
  ·rename_i h;rw[if_neg h];exact hm
 refine⟨by simp[insAt_len,M.n],by rw[insAt_len,insAt_len,M.d],fun j hj=>?_,fun j j' hj hj' h=>?_,fun m hm=>?_,fun j e x he hx=>?_,fun j j' x y hx hy h=>?_,fun j e y he hy=>?_⟩
 ·rw[insAt_len] at hj⊢
  try dsimp only
  split
  ·have:=M.rng j (by omega);omega
  ·split
   ·omega
   ·have:=M.rng (j-1) (by omega);omega
 ·rw[insAt_len] at hj hj'
  try dsimp only at h
  split at h
  ·rename_i a1
   have b1:=M.rng j (by omega)
   split at h
   ·exact M.inj j j' (by omega) (by omega) h
   ·split at h
    ·omega
    ·have:=M.inj j (j'-1) (by omega) (by omega) h;omega
  ·split at h
   ·rename_i a1 a2
    split at h
    ·have:=M.rng j' (by omega);omega
    ·split at h
     ·omega
     ·have:=M.rng (j'-1) (by omega);omega
   ·rename_i a1 a2
    have b1:=M.rng (j-1) (by omega)
    split at h
    ·have:=M.inj (j-1) j' (by omega) (by omega) h;omega
    ·split at h
     ·omega
     ·have:=M.inj (j-1) (j'-1) (by omega) (by omega) h;omega
 ·rw[insAt_len] at hm⊢
  by_cases hmn:m=ks.length
  ·exact⟨p,by omega,by simp[hmn]⟩
  ·obtain⟨j,hj,rfl⟩:=M.sur m (by omega)
   by_cases hjp:j<p
   ·exact⟨j,by omega,by simp[hjp]⟩
   ·exact⟨j+1,by omega,by rw[if_neg (by omega),if_neg (by omega)];rfl⟩
 ·rw[insAt_get _ _ _ hp] at hx
  have he:=hget _ e he
  by_cases h2:j<p
  ·rw[if_pos h2] at hx
   simp only[h2,if_true] at he
   have:=M.rng j (by omega)
   rw[if_neg (by omega)] at he
   exact M.key j e x he hx
  ·rw[if_neg h2] at hx
   simp only[h2,if_false] at he
   by_cases h3:j=p
   ·rw[if_pos h3] at hx
    rw[if_pos h3,if_pos rfl] at he
    cases hx
    rw[he.1]
    exact⟨hk,hkk⟩
   ·rw[if_neg h3] at hx
    rw[if_neg h3] at he
    have hj:j-1<ks.length:=(List.getElem?_eq_some_iff.1 hx).1
    have:=M.rng (j-1) hj
    rw[if_neg (by omega)] at he
    exact M.key (j-1) e x he hx
 ·have hnew:∀(i:Nat) z,ks[i]? =some z→keyEq k z=false∧keyEq z k=false:=by
   intro i z hz
   have hi:i<ks.length:=(List.getElem?_eq_some_iff.1 hz).1
   have hsi:s i<es.size:=by rw[M.n];exact M.rng i hi
   obtain⟨q1,q2⟩:=M.key i es[s i] z (by simp[hsi]) hz
   have h1':=findK_none hf i z hz
   refine⟨h1',?_⟩
   cases hq:keyEq z k with
   |false=>rfl
   |true=>
    have:=(hdd.iff q1 hk q2 hkk).1 hq
    rw[(hdd.iff hk q1 hkk q2).2 this.symm] at h1'
    cases h1'
  rw[insAt_get _ _ _ hp] at hx hy
  by_cases a1:j<p
  ·rw[if_pos a1] at hx
   by_cases b1:j'<p
   ·rw[if_pos b1] at hy;exact M.one j j' x y hx hy h
   ·rw[if_neg b1] at hy
    by_cases b2:j'=p
    ·rw[if_pos b2] at hy;cases hy;rw[(hnew j x hx).2] at h;cases h
    ·rw[if_neg b2] at hy;have:=M.one j (j'-1) x y hx hy h;omega
  ·rw[if_neg a1] at hx
   by_cases a2:j=p
   ·rw[if_pos a2] at hx;cases hx
    by_cases b1:j'<p
    ·rw[if_pos b1] at hy;rw[(hnew j' y hy).1] at h;cases h
    ·rw[if_neg b1] at hy
     by_cases b2:j'=p
     ·omega
     ·rw[if_neg b2] at hy;rw[(hnew _ y hy).1] at h;cases h
   ·rw[if_neg a2] at hx
    by_cases b1:j'<p
    ·rw[if_pos b1] at hy;have:=M.one (j-1) j' x y hx hy h;omega
    ·rw[if_neg b1] at hy
     by_cases b2:j'=p
     ·rw[if_pos b2] at hy;cases hy;rw[(hnew _ x hx).2] at h;cases h
     ·rw[if_neg b2] at hy;have:=M.one (j-1) (j'-1) x y hx hy h;omega
 ·rw[insAt_get _ _ _ (by rw[M.d];exact hp)] at hy
  have he:=hget _ e he
  by_cases h2:j<p
  ·rw[if_pos h2] at hy
   simp only[h2,if_true] at he
   have:=M.rng j (by omega)
   rw[if_neg (by omega)] at he
   exact M.val j e y he hy
  ·rw[if_neg h2] at hy
   simp only[h2,if_false] at he
   by_cases h3:j=p
   ·rw[if_pos h3] at hy
    rw[if_pos h3,if_pos rfl] at he
    cases hy
    rw[he.2]
    exact hv
   ·rw[if_neg h3] at hy
    rw[if_neg h3] at he
    have hj:j-1<ks.length:=by rw[←M.d];exact(List.getElem?_eq_some_iff.1 hy).1
    have:=M.rng (j-1) hj
    rw[if_neg (by omega)] at he
    exact M.val (j-1) e y he hy
theorem MapRep.upd{j:Nat}(hf:findK k ks=some j){v:Value}{d:D}(hv:RepD γ v d):
    MapRep γ (es.modify (s j) fun e=>{e with key:=kv,val:=v}) kd ks (vs.set j d) s:=by
 obtain⟨e0,f1,f2,_⟩:=M.found hdd hk hkk hf default
 obtain⟨x0,hx0,_⟩:=findK_some hf
 have hjl:j<ks.length:=(List.getElem?_eq_some_iff.1 hx0).1
 have hget:∀m e,(es.modify (s j) fun e=>{e with key:=kv,val:=v})[m]? =some e→if m=s j then e.key=kv∧e.val=v else es[m]? =some e:=by
  intro m e hm
  rw[Array.getElem?_modify] at hm
  by_cases hij:s j=m
  ·subst hij
   rw[if_pos rfl,f1] at hm
   simp at hm
   subst hm
   simp
  ·rw[if_neg hij] at hm
   rw[if_neg (fun e=>hij e.symm)];exact hm
 refine⟨by simp[M.n],by simp[M.d],M.rng,M.inj,M.sur,fun i e x he hx=>?_,M.one,fun i e y he hy=>?_⟩
 ·have hq:=hget _ e he
  have hi:i<ks.length:=(List.getElem?_eq_some_iff.1 hx).1
  split at hq
  ·rename_i hs
   have:=M.inj i j hi hjl hs
   subst this
   rw[hq.1]
   have:=M.key i e0 x f1 hx
   rw[f2] at this
   exact this
  ·exact M.key i e x hq hx
 ·have hq:=hget _ e he
  have hi:i<ks.length:=by rw[←M.d];simpa using (List.getElem?_eq_some_iff.1 hy).1
  split at hq
  ·rename_i hs
   have:=M.inj i j hi hjl hs
   subst this
   rw[List.getElem?_set_self (by rw[M.d];exact hi)] at hy
   cases hy
   rw[hq.2];exact hv
  ·rename_i hs
   have hne:j≠i:=fun e=>hs (by rw[e])
   rw[List.getElem?_set_ne hne] at hy
   exact M.val i e y hq hy
end
theorem done_mkmap(I:Inv G γ H w){t:TypeId}{kd:Nat}(ho:o.op= .makeMap t none){d:D}{H':Hp}(he:evK G env H (.mkmap kd)=some (d,H')):Done P G γ H w a o d H':=by
 simp only[evK] at he
 cases he
 obtain⟨γ',a1,a2,a3,a4⟩:=I.newMap kd
 exact⟨.map (some w.heap.size),_,γ',.inl (by simp[execOp,ho,Instr.makeMap]),a1,a3,a4,.mapr _ _ a2⟩
theorem done_mapget(I:Inv G γ H w)(E:EnvRep γ env a.tmps){t kt et:TypeId}{m k:Operand}{m' k':Opd}{ok:Bool}{kd:Nat}{z:PD}(ho:o.op= .lookup t m k ok)(ht:P.underlying t=some (.map kt et))(hg:kindOf P kt=some kd)(hz:zeroOf P et=some z)
    (hm:opdOf m=some m') (hk:opdOf k=some k') {d:D} {H':Hp} (he:evK G env H (.mapget kd z ok m' k')=some (d,H')):Done P G γ H w a o d H':=by
 have hmr:=opdOf_rep E hm
 have hkr:=opdOf_rep E hk
 simp only[evK] at he
 obtain⟨d0,hd0,hh⟩:=Option.map_eq_some_iff.1 he
 cases hh
 obtain⟨zv,hz1,hz2⟩:=run_zeroOf hz w
 have hzr:=ofV_rep γ.mem hz2
 have fin:∀(v:Value) (found:Bool) (dv:D),(Instr.lookup t (a.eval m) (a.eval k) ok).run P w= .ok (if ok then .tuple #[v,.bool found] else v) w→RepD γ v dv→Done P G γ H w a o (if ok then .tup [dv,.p (.bool found)] else dv) H:=by
  intro v found dv hrun hv
  refine .same I (v:=if ok then .tuple #[v,.bool found] else v) (by simp[execOp,ho,hrun]) ?_
  cases ok with
  |false=>exact hv
  |true=>
   refine .tup _ _ rfl fun i x hx=>?_
   match i with
   | 0=>simp only[List.getElem?_cons_zero,Option.some.injEq] at hx;subst hx;exact hv
   | 1=>simp only[List.getElem?_cons_succ,List.getElem?_cons_zero,Option.some.injEq] at hx;subst hx;exact .p _ _ (.bool _)
   |i+2=>simp at hx
 unfold mapgetD at hd0
 split at hd0
 ·rename_i kx hm0 hk0
  split at hd0
  ·rename_i hc
   cases hd0
   rw[hm0] at hmr
   rw[hk0] at hkr
   have hmv:a.eval m= .map none:=by
    generalize a.eval m=v at hmr
    cases hmr with
    |p _ _ h=>cases h;rfl
   have hdd:=keyT_of hg hc.2
   have hik:=fun w em=>hdd.chk w em hkr.p_inv hc.1
   have f3:(Instr.findKey kt (a.eval k) []).run P w= .ok none w:=by
    rcases hdd.fnd [] w hkr.p_inv hc.1 (fun e h=>by simp at h) with⟨q,_⟩ |⟨j,e,_,q,_⟩
    ·exact q
    ·simp at q
   have:=fin zv false (.p z) (by
    rw[hmv]
    simp[Instr.lookup,run_underlying ht,hik,f3,hz1,Result.andThen]
    try (cases ok<;>simp)) (.p _ _ hzr)
   cases ok<;>exact this
  ·cases hd0
 ·rename_i i kx hm0 hk0
  rw[hm0] at hmr
  rw[hk0] at hkr
  split at hd0
  ·rename_i kd' ks vs hbx
   generalize hmv:a.eval m=v at hmr
   cases hmr with
   |mapr _ b hb=>
    obtain⟨es,ck,s,q1,M⟩:=I.mapBlock hb hbx
    split at hd0
    ·rename_i hc
     obtain⟨hc1,hkd,hc2⟩:=hc
     subst hkd
     have hdd:=keyT_of hg hc2
     have hik:=fun w em=>hdd.chk w em hkr.p_inv hc1
     split at hd0
     ·rename_i j hj
      obtain⟨e,f1,f2,f3⟩:=M.found hdd hkr.p_inv hc1 hj w
      obtain⟨dv,hdv,rfl⟩:=Option.map_eq_some_iff.1 hd0
      refine fin e.val true dv ?_ (M.val j e dv f1 hdv)
      rw[hmv]
      simp[Instr.lookup,run_underlying ht,MapKept.run_getObj_map q1,hik,f3,Result.andThen]
      try (cases ok<;>simp)
     ·rename_i hj
      have f3:=M.missed hdd hkr.p_inv hc1 hj w
      cases hd0
      have:=fin zv false (.p z) (by
       rw[hmv]
       simp[Instr.lookup,run_underlying ht,MapKept.run_getObj_map q1,hik,f3,hz1,Result.andThen]
       try (cases ok<;>simp)) (.p _ _ hzr)
      cases ok<;>exact this
    ·cases hd0
  ·cases hd0
 ·cases hd0
theorem done_mapins(I:Inv G γ H w)(E:EnvRep γ env a.tmps){t kt et:TypeId}{m k x:Operand}{m' k' x':Opd}{kd:Nat}(ho:o.op= .mapUpdate t m k x∨o.op= .insert t m k x)(ht:P.underlying t=some (.map kt et))(hg:kindOf P kt=some kd)
    (hm:opdOf m=some m') (hk:opdOf k=some k') (hx:opdOf x=some x') {d:D} {H':Hp} (he:mapinsD kd (m'.ev env) (k'.ev env) (x'.ev env) H=some (d,H')):Done P G γ H w a o d H':=by
 have hmr:=opdOf_rep E hm
 have hkr:=opdOf_rep E hk
 have hxr:=opdOf_rep E hx
 unfold mapinsD at he
 split at he
 ·rename_i i kx hm0 hk0
  rw[hm0] at hmr
  rw[hk0] at hkr
  split at he
  ·rename_i kd' ks vs hbx
   generalize hmv:a.eval m=v at hmr
   cases hmr with
   |mapr _ b hb=>
    obtain⟨es,ck,s,q1,M⟩:=I.mapBlock hb hbx
    split at he
    ·rename_i hc
     obtain⟨hc1,hkd,hc2,hc3,_⟩:=hc
     cases he
     subst hkd
     have hdd:=keyT_of hg hc2
     have hik:=fun w em=>hdd.chk w em hkr.p_inv hc1
     have f3:=M.missed hdd hkr.p_inv hc1 hc3 w
     have M':=M.ins hdd hkr.p_inv hc1 hc3 hxr ck (posK_le (keyCode kx) ks)
     obtain⟨F,J⟩:=I.setMap (ck':=ck+1) hb hbx q1 M'
     refine⟨undef,_,γ,.inr ⟨?_,rfl⟩,.refl γ,F,J,.undef⟩
     have hrun:(Instr.mapUpdate t (a.eval m) (a.eval k) (a.eval x)).run P w= .ok () {w with heap:=w.heap.setIfInBounds b (.map (es.push {key:=a.eval k,val:=a.eval x,born:=ck}) (ck+1))}:=by
      rw[hmv]
      simp[Instr.mapUpdate,run_underlying ht,MapKept.run_getObj_map q1,hik,f3,MapKept.run_setObj_map _ q1,Result.andThen]
     rcases ho with ho |ho<;>simp[execOp,ho,hrun,Result.andThen]
    ·cases he
  ·cases he
 ·cases he
theorem done_mapset(I:Inv G γ H w)(E:EnvRep γ env a.tmps){t kt et:TypeId}{m k x:Operand}{m' k' x':Opd}{kd:Nat}(ho:o.op= .mapUpdate t m k x)(ht:P.underlying t=some (.map kt et))(hg:kindOf P kt=some kd)
    (hm:opdOf m=some m') (hk:opdOf k=some k') (hx:opdOf x=some x') {d:D} {H':Hp} (he:evK G env H (.mapset kd m' k' x')=some (d,H')):Done P G γ H w a o d H':=by
 have hmr:=opdOf_rep E hm
 have hkr:=opdOf_rep E hk
 have hxr:=opdOf_rep E hx
 simp only[evK] at he
 unfold mapsetD at he
 split at he
 ·rename_i i kx hm0 hk0
  split at he
  ·rename_i kd' ks vs hbx
   split at he
   ·rename_i hc
    obtain⟨hc1,hkd,hc2⟩:=hc
    subst hkd
    split at he
    ·rename_i j hj
     cases he
     rw[hm0] at hmr
     rw[hk0] at hkr
     generalize hmv:a.eval m=v at hmr
     cases hmr with
     |mapr _ b hb=>
      obtain⟨es,ck,s,q1,M⟩:=I.mapBlock hb hbx
      have hdd:=keyT_of hg hc2
      have hik:=fun w em=>hdd.chk w em hkr.p_inv hc1
      obtain⟨e0,f1,f2,f3⟩:=M.found hdd hkr.p_inv hc1 hj w
      have M':=M.upd hdd hkr.p_inv hc1 hj hxr
      obtain⟨F,J⟩:=I.setMap (ck':=ck) hb hbx q1 M'
      refine⟨undef,_,γ,.inr ⟨?_,rfl⟩,.refl γ,F,J,.undef⟩
      have hrun:(Instr.mapUpdate t (a.eval m) (a.eval k) (a.eval x)).run P w= .ok () {w with heap:=w.heap.setIfInBounds b (.map (es.modify (s j) fun e=>{e with key:=a.eval k,val:=a.eval x}) ck)}:=by
       rw[hmv]
       simp[Instr.mapUpdate,run_underlying ht,MapKept.run_getObj_map q1,hik,f3,f1,f2,hdd.stay w hkr.p_inv hc1,MapKept.run_setObj_map _ q1,Result.andThen]
      simp[execOp,ho,hrun,Result.andThen]
    ·exact done_mapins I E (.inl ho) ht hg hm hk hx he
   ·cases he
  ·cases he
 ·cases he
end Go.Vs
namespace Go.Vs
variable {P : Program} {G : Nat → Option (List PD)} {γ : Gh} {H : Hp} {w : World} {env : Env} {a : Act} {o : Oper}
theorem done_tassert(I:Inv G γ H w)(E:EnvRep γ env a.tmps){t xt:TypeId}{x:Operand}{y:Opd}{ok:Bool}{z:PD}{u:TypeDesc}(ho:o.op= .typeAssert x xt t ok)(ht:P.underlying t=some u)(hni:∀ms,u≠.interface ms)
    (hz:zeroOf P t=some z) (hx:opdOf x=some y) {d:D} {H':Hp} (he:evK G env H (.tassert t z ok y)=some (d,H')):Done P G γ H w a o d H':=by
 have hr:=opdOf_rep E hx
 simp only[evK] at he
 obtain⟨d0,hd0,hh⟩:=Option.map_eq_some_iff.1 he
 cases hh
 obtain⟨zv,hz1,hz2⟩:=run_zeroOf hz w
 have hzr:=ofV_rep γ.mem hz2
 have holds:∀(v:Value) (dv:D),a.eval x= .iface t v→RepD γ v dv→Done P G γ H w a o (if ok then .tup [dv,.p (.bool true)] else dv) H:=by
  intro v dv hv hrep
  refine .same I (v:=if ok then .tuple #[v,.bool true] else v) ?_ ?_
  ·have :(Instr.typeAssert (a.eval x) xt t ok).run P w= .ok (if ok then .tuple #[v,.bool true] else v) w:=by
    rw[hv]
    unfold Instr.typeAssert
    simp only[Sem.run_bind,run_underlying ht,Result.andThen_ok]
    cases u<;>first |exact absurd rfl (hni _) |(cases ok<;>simp)
   simp[execOp,ho,this]
  ·cases ok with
   |false=>exact hrep
   |true=>
    refine .tup _ _ rfl fun i x hx=>?_
    match i with
    | 0=>simp only[List.getElem?_cons_zero,Option.some.injEq] at hx;subst hx;exact hrep
    | 1=>simp only[List.getElem?_cons_succ,List.getElem?_cons_zero,Option.some.injEq] at hx;subst hx;exact .p _ _ (.bool _)
    |i+2=>simp at hx
 have fails:ok=true→(a.eval x= .nilIface∨∃t' v,a.eval x= .iface t' v∧t'≠t)→Done P G γ H w a o (.tup [.p z,.p (.bool false)]) H:=by
  intro hok hv
  refine .same I (v:=.tuple #[zv,.bool false]) ?_ (.tup _ _ rfl fun i x hx=>?_)
  ·have :(Instr.typeAssert (a.eval x) xt t ok).run P w= .ok (.tuple #[zv,.bool false]) w:=by
    subst hok
    unfold Instr.typeAssert
    simp only[Sem.run_bind,run_underlying ht,Result.andThen_ok]
    rcases hv with hv |⟨t',v,hv,hne⟩
    ·rw[hv]
     cases u<;>first |exact absurd rfl (hni _) |simp[hz1,Result.andThen]
    ·rw[hv]
     cases u<;>first |exact absurd rfl (hni _) |simp[hne,hz1,Result.andThen]
   simp[execOp,ho,this]
  ·match i with
   | 0=>simp only[List.getElem?_cons_zero,Option.some.injEq] at hx;subst hx;exact .p _ _ hzr
   | 1=>simp only[List.getElem?_cons_succ,List.getElem?_cons_zero,Option.some.injEq] at hx;subst hx;exact .p _ _ (.bool _)
   |i+2=>simp at hx
 unfold tassertD at hd0
 split at hd0
 ·rename_i u' y' hy
  rw[hy] at hr
  have hp:=hr.p_inv
  generalize hv:a.eval x=v at hp
  cases hp with
  |iface _ v0 _ h0=>
   split at hd0
   ·rename_i hut
    subst hut
    cases hd0
    have:=holds v0 (.p y') hv (.p _ _ h0)
    cases ok<;>exact this
   ·rename_i hut
    split at hd0
    ·rename_i hok
     cases hd0
     exact fails hok (.inr ⟨u',v0,hv,hut⟩)
    ·cases hd0
 ·rename_i u' y' hy
  rw[hy] at hr
  generalize hv:a.eval x=v at hr
  cases hr with
  |ifc _ v0 _ h0=>
   split at hd0
   ·rename_i hut
    subst hut
    cases hd0
    have:=holds v0 y' hv h0
    cases ok<;>exact this
   ·rename_i hut
    split at hd0
    ·rename_i hok
     cases hd0
     exact fails hok (.inr ⟨u',v0,hv,hut⟩)
    ·cases hd0
 ·rename_i hy
  rw[hy] at hr
  have hp:=hr.p_inv
  split at hd0
  ·rename_i hok
   cases hd0
   refine fails hok (.inl ?_)
   generalize a.eval x=v at hp
   cases hp;rfl
  ·cases hd0
 ·cases hd0
theorem op_done0(I:Inv G γ H w)(E:EnvRep γ env a.tmps){k:SK}(hk:kOf P o.op=some k)(hok:kOk P o k=true){d:D}{H':Hp}(he:evK G env H k=some (d,H')):Done P G γ H w a o d H':=by
 cases ho:o.op with
 |move x=>
  rw[ho] at hk
  obtain⟨y,hy,rfl⟩:=Option.map_eq_some_iff.1 hk
  simp only[evK] at he
  cases he
  exact done_move I E (.inl ho) hy
 |assign x=>
  rw[ho] at hk
  obtain⟨y,hy,rfl⟩:=Option.map_eq_some_iff.1 hk
  simp only[evK] at he
  cases he
  exact done_move I E (.inr ho) hy
 |pick c x y=>
  rw[ho] at hk
  simp only[kOf] at hk
  split at hk
  ·rename_i c' x' y' h1 h2 h3
   cases hk
   simp only[evK] at he
   split at he
   ·rename_i t ht
    cases he
    exact done_pick I E ho h1 h2 h3 ht
   ·cases he
  ·cases hk
 |alloc e=>
  rw[ho] at hk
  obtain⟨z,hz,rfl⟩:=Option.map_eq_some_iff.1 hk
  exact done_alloc I ho hz he
 |box e x=>
  rw[ho] at hk
  obtain⟨y,hy,rfl⟩:=Option.map_eq_some_iff.1 hk
  exact done_box I E ho hy he
 |build t parts=>
  rw[ho] at hk
  simp only[kOf] at hk
  split at hk
  ·rename_i fs zs h1 h2
   split at hk
   ·rename_i pl hpl
    obtain⟨qs,hq,rfl⟩:=Option.map_eq_some_iff.1 hk
    exact done_build_struct I E ho h1 h2 hpl hq he
   ·cases hk
  ·rename_i n e zs h1 h2
   split at hk
   ·rename_i s hs
    obtain⟨qs,hq,rfl⟩:=Option.map_eq_some_iff.1 hk
    exact done_build_array I E ho h1 h2 hs hq he
   ·cases hk
  ·cases hk
 |buildSlice t len parts=>
  rw[ho] at hk
  simp only[kOf] at hk
  split at hk
  ·rename_i e h1
   split at hk
   ·rename_i n z ps h2 h3 h4
    split at hk
    ·rename_i hlim
     cases hk
     exact done_bslice I E ho h1 h2 h3 h4 hlim he
    ·cases hk
   ·cases hk
  ·cases hk
 |load t x=>
  rw[ho] at hk
  simp only[kOf] at hk
  split at hk
  ·rename_i n y h1 h2
   cases hk
   exact done_load I E ho h1 h2 he
  ·cases hk
 |store t x y=>
  rw[ho] at hk
  simp only[kOf] at hk
  split at hk
  ·rename_i n x' y' h1 h2 h3
   cases hk
   exact done_store I E ho h1 h2 h3 he
  ·cases hk
 |nilCheck x=>
  rw[ho] at hk
  obtain⟨y,hy,rfl⟩:=Option.map_eq_some_iff.1 hk
  exact done_nilCheck I E ho hy he
 |binOp op t x y yt=>
  rw[ho] at hk
  simp only[kOf] at hk
  split at hk
  ·rename_i h1 h2 _
   cases hk
   exact done_bin I E ho h1 h2 he
  ·rename_i h1 h2 _
   cases hk
   exact done_bin I E ho h1 h2 he
  ·rename_i h1 h2 h3
   split at hk
   ·rename_i hop
    cases hk
    exact done_eqk I E ho hop h1 h2 (.inl ⟨rfl,h3⟩) he
   ·cases hk
  ·rename_i h1 h2 h3
   split at hk
   ·rename_i hop
    cases hk
    exact done_eqk I E ho hop h1 h2 (.inr (.inl ⟨rfl,_,h3⟩)) he
   ·cases hk
  ·rename_i h1 h2 h3
   split at hk
   ·rename_i hop
    cases hk
    exact done_eqk I E ho hop h1 h2 (.inr (.inr (.inl ⟨rfl,_,h3⟩))) he
   ·cases hk
  ·rename_i h1 h2 h3
   split at hk
   ·rename_i hop
    cases hk
    exact done_eqk I E ho hop h1 h2 (.inr (.inr (.inr ⟨rfl,_,_,_,h3⟩))) he
   ·cases hk
  ·rename_i h1 h2 h3
   split at hk
   ·rename_i hop
    cases hk
    obtain⟨hop,hyc⟩:=hop
    cases y with
    |const c=>exact done_eqi I E ho hop rfl h1 h2 h3 he
    |_=>cases hyc
   ·cases hk
  ·rename_i h1 h2 h3
   split at hk
   ·rename_i hop
    obtain⟨ts,hts,rfl⟩:=Option.map_eq_some_iff.1 hk
    exact done_eqs I E ho hop.1 h1 h2 h3 hop.2.1 hop.2.2 hts he
   ·cases hk
  ·cases hk
 |unOp op t x=>
  rw[ho] at hk
  obtain⟨y,hy,rfl⟩:=Option.map_eq_some_iff.1 hk
  exact done_un I E ho hy he
 |convert s t x=>
  rw[ho] at hk
  simp only[kOf] at hk
  split at hk
  ·rename_i h1 h2 h3
   cases hk
   exact done_conv I E ho h1 h2 h3 he
  ·rename_i h1 h2 h3
   cases hk
   exact done_strid I E ho h1 h2 h3 he
  ·rename_i h1 h2 h3
   split at hk
   ·rename_i h4
    cases hk
    exact done_toBytes I E ho h1 h2 h4 h3 he
   ·cases hk
  ·rename_i h1 h2 h3
   split at hk
   ·rename_i h4
    cases hk
    exact done_toStr I E ho h1 h4 h2 h3 he
   ·cases hk
  ·cases hk
 |makeFunc fn first cap=>
  rw[ho] at hk
  cases fn with
  |func f=>
   simp only[kOf] at hk
   split at hk
   ·rename_i h1 h2
    cases hk
    simp only[evK] at he
    cases he
    exact done_mkfn I E ho h1 h2
   ·cases hk
  |_=>cases hk
 |slice t x lo hi mx=>
  rw[ho] at hk
  cases mx with
  |some m=>
   cases hi with
   |none=>simp only[kOf] at hk;cases hk
   |some hi=>
    simp only[kOf] at hk
    split at hk
    ·rename_i h1 h2 h3 h4 h5
     split at hk
     ·rename_i h6
      cases hk
      exact done_slice3 I E ho h1 h6 h2 h3 h4 h5 he
     ·cases hk
    ·cases hk
  |none=>
   simp only[kOf] at hk
   split at hk
   ·rename_i h1 h2 h3 h4
    cases hk
    exact done_slice_str I E ho h1 h2 h3 h4 he
   ·rename_i h1 h2 h3 h4
    split at hk
    ·rename_i h5
     cases hk
     exact done_slice_sl I E ho h1 h5 h2 h3 h4 he
    ·cases hk
   ·cases hk
 |makeSlice t l c=>
  rw[ho] at hk
  simp only[kOf] at hk
  split at hk
  ·rename_i h1 h2 h3
   split at hk
   ·rename_i i z h4 h5
    cases hk
    exact done_makesl I E ho h1 h4 h5 h2 h3 he
   ·cases hk
  ·cases hk
 |fieldAddr t x f=>
  rw[ho] at hk
  simp only[kOf] at hk
  split at hk
  ·rename_i h1 h2
   split at hk
   ·rename_i h3
    split at hk
    ·rename_i h4
     cases hk
     exact done_faddr I E ho h2 h1 h3 h4 he
    ·cases hk
   ·cases hk
  ·cases hk
 |field t x f=>
  rw[ho] at hk
  simp only[kOf] at hk
  split at hk
  ·rename_i h1 h2
   split at hk
   ·rename_i h3
    obtain⟨n,hn,rfl⟩:=Option.map_eq_some_iff.1 hk
    exact done_field I E ho h2 h1 h3 hn he
   ·cases hk
  ·cases hk
 |indexAddr t x i=>
  rw[ho] at hk
  simp only[kOf] at hk
  split at hk
  ·rename_i h1 h2 h3
   obtain⟨n,hn,rfl⟩:=Option.map_eq_some_iff.1 hk
   exact done_iaddr_array I E ho h1 hn h2 h3 he
  ·rename_i h1 h2 h3
   obtain⟨n,hn,rfl⟩:=Option.map_eq_some_iff.1 hk
   exact done_iaddr_slice I E ho h1 hn h2 h3 he
  ·cases hk
 |index t x i=>
  rw[ho] at hk
  simp only[kOf] at hk
  split at hk
  ·rename_i h1 h2 h3
   split at hk
   ·rename_i h4 h5
    cases hk
    exact done_index_arr I E ho h1 h4 h5 h2 h3 he
   ·cases hk
  ·rename_i h1 h2 h3
   cases hk
   exact done_index_str I E ho h1 h2 h3 he
  ·cases hk
 |extract x i=>
  rw[ho] at hk
  obtain⟨y,hy,rfl⟩:=Option.map_eq_some_iff.1 hk
  exact done_extract I E ho hy he
 |makeInterface t x=>
  rw[ho] at hk
  simp only[kOf] at hk
  split at hk
  ·cases hk
  ·rename_i hni h1 h2
   cases hk
   exact done_iface I ho (by rw[h1];rfl) (fun ms h=>by rw[h1] at h;cases h;exact hni _ rfl) he (opdOf_rep E h2) (fun z hz=>seal_rep (opdOf_rep E h2) hz)
  ·cases hk
 |call c=>
  rw[ho] at hk
  simp only[kOf] at hk
  obtain⟨callee,args,ats⟩:=c
  cases callee with
  |value f=>
   simp only[callOf] at hk
   split at hk
   ·cases hk;simp only[evK] at he;cases he
   ·cases hk
  |invoke r m=>simp only[callOf] at hk;cases hk
  |builtin b=>
   simp only[callOf] at hk
   split at hk
   ·rename_i x t e1 e2
    have hargs:args= #[x]:=by simpa using congrArg List.toArray e1
    have hats:ats= #[t]:=by simpa using congrArg List.toArray e2
    subst hargs;subst hats
    split at hk
    ·rename_i h1 h2
     cases hk
     exact done_len I E ho (.inl ⟨rfl,h1⟩) h2 he
    ·rename_i h1 h2
     cases hk
     exact done_len I E ho (.inr ⟨rfl,_,h1⟩) h2 he
    ·cases hk
   ·rename_i s x t u e1 e2
    have hargs:args= #[s,x]:=by simpa using congrArg List.toArray e1
    have hats:ats= #[t,u]:=by simpa using congrArg List.toArray e2
    subst hargs;subst hats
    split at hk
    ·rename_i e du s' x' h1 h2 h3 h4
     split at hk
     ·rename_i i hi
      split at hk
      ·rename_i z hz
       split at hk
       ·rename_i hc
        cases hk
        simp only[appOk,Bool.and_eq_true,decide_eq_true_eq,beq_iff_eq] at hc
        obtain⟨⟨c1,c2⟩,c3⟩:=hc
        refine done_append I E ho h1 h2 ?_ hi hz c2 c3 h3 h4 he
        cases du<;>first |(simp at c1;done) |exact .inl ⟨_,rfl⟩ |exact .inr rfl
       ·cases hk
      ·cases hk
     ·cases hk
    ·cases hk
   ·rename_i x e1
    have hargs:args= #[x]:=by simpa using congrArg List.toArray e1
    subst hargs
    obtain⟨y,hy,rfl⟩:=Option.map_eq_some_iff.1 hk
    exact done_sdata I E ho hok hy he
   ·rename_i x n t it e1 e2
    have hargs:args= #[x,n]:=by simpa using congrArg List.toArray e1
    have hats:ats= #[t,it]:=by simpa using congrArg List.toArray e2
    subst hargs;subst hats
    split at hk
    ·rename_i h1 h2 h3
     split at hk
     ·rename_i h4
      cases hk
      exact done_ustr I E ho h1 (by simpa using h4) h2 h3 he
     ·cases hk
    ·cases hk
   ·rename_i x y e1
    have hargs:args= #[x,y]:=by simpa using congrArg List.toArray e1
    subst hargs
    split at hk
    ·rename_i h1 h2
     cases hk
     exact done_minmax I E (mx:=true) (ts:=ats) ho h1 h2 he
    ·cases hk
   ·rename_i x y e1
    have hargs:args= #[x,y]:=by simpa using congrArg List.toArray e1
    subst hargs
    split at hk
    ·rename_i h1 h2
     cases hk
     exact done_minmax I E (mx:=false) (ts:=ats) ho h1 h2 he
    ·cases hk
   ·cases hk
 |makeMap t r=>
  rw[ho] at hk
  cases r with
  |none=>
   simp only[kOf] at hk
   split at hk
   ·rename_i h1
    obtain⟨g,hg,rfl⟩:=Option.map_eq_some_iff.1 hk
    exact done_mkmap I ho he
   ·cases hk
  |some r=>simp[kOf] at hk
 |typeAssert x xt t ok=>
  rw[ho] at hk
  simp only[kOf] at hk
  split at hk
  ·cases hk
  ·rename_i hni h1 h2 h3
   cases hk
   exact done_tassert I E ho h1 (fun ms h=>hni ms h) h2 h3 he
  ·cases hk
 |mapUpdate t m k' x=>
  rw[ho] at hk
  simp only[kOf] at hk
  split at hk
  ·rename_i h1 h2 h3 h4
   obtain⟨g,hg,rfl⟩:=Option.map_eq_some_iff.1 hk
   exact done_mapset I E ho h1 hg h2 h3 h4 he
  ·cases hk
 |insert t m k' x=>
  rw[ho] at hk
  simp only[kOf] at hk
  split at hk
  ·rename_i h1 h2 h3 h4
   obtain⟨g,hg,rfl⟩:=Option.map_eq_some_iff.1 hk
   exact done_mapins I E (.inr ho) h1 hg h2 h3 h4 he
  ·cases hk
 |lookup t m k' ok=>
  rw[ho] at hk
  simp only[kOf] at hk
  split at hk
  ·rename_i h1 h2 h3
   split at hk
   ·rename_i hg hz
    cases hk
    exact done_mapget I E ho h1 hg hz h2 h3 he
   ·cases hk
  ·cases hk
 |_=>rw[ho] at hk;cases hk
theorem kOp_plain{k:SK}(h:kOp P o.op=k)(hc:k.isCall=false)(hs:k≠.stuck):kOf P o.op=some k:=by
 unfold kOp at h
 split at h
 ·rename_i r hr
  exfalso
  unfold callK at hr
  split at hr
  ·split at hr<;>cases hr
   ·subst h;simp[SK.isCall] at hc
   ·exact hs h.symm
  ·rename_i x _
   cases hr
   cases hx:opdOf x with
   |none=>rw[hx] at h;exact hs h.symm
   |some y=>rw[hx] at h;subst h;simp[SK.isCall] at hc
  ·cases hr
 ·split at h
  ·rename_i k' hk'
   split at h
   ·exact absurd h.symm hs
   ·subst h;exact hk'
  ·exact absurd h.symm hs
theorem op_done(I:Inv G γ H w)(E:EnvRep γ env a.tmps){hint:Option SK}{k:SK}(hk:kHint P o hint=k)(hc:k.isCall=false){d:D}{H':Hp}(he:evK G env H k=some (d,H')):Done P G γ H w a o d H':=by
 have hs:k≠.stuck:=fun e=>by subst e;simp[evK] at he
 unfold kHint at hk
 split at hk
 ·rename_i hok
  rw[hk] at hok
  unfold kRaw at hk
  split at hk
  ·split at hk
   ·rename_i as ts e sz b s x ho hkop
    subst hk
    have hkf:=kOp_plain hkop rfl (fun h=>by cases h)
    rw[ho] at hkf
    simp only[kOf,callOf] at hkf
    split at hkf<;>try contradiction
    rename_i s0 x0 t u _ e1 e2
    have hargs:as= #[s0,x0]:=by simpa using congrArg List.toArray e1
    have hats:ts= #[t,u]:=by simpa using congrArg List.toArray e2
    subst hargs;subst hats
    split at hkf
    ·rename_i e0 du s' x' h1 h2 h3 h4
     split at hkf
     ·rename_i i hi
      split at hkf
      ·rename_i z hz
       split at hkf
       ·rename_i hcc
        cases hkf
        simp only[appOk,Bool.and_eq_true,decide_eq_true_eq,beq_iff_eq] at hcc
        obtain⟨⟨c1,c2⟩,c3⟩:=hcc
        refine done_appendm I E ho h1 h2 ?_ hi hz c2 c3 h3 h4 he
        cases du<;>first |(simp at c1;done) |exact .inl ⟨_,rfl⟩ |exact .inr rfl
       ·cases hkf
      ·cases hkf
     ·cases hkf
    ·cases hkf
   ·exact op_done0 I E (kOp_plain hk hc hs) hok he
  ·split at hk
   ·rename_i as ts e sz b s x ho hkop
    subst hk
    have hkf:=kOp_plain hkop rfl (fun h=>by cases h)
    rw[ho] at hkf
    simp only[kOf,callOf] at hkf
    split at hkf<;>try contradiction
    rename_i s0 x0 t u _ e1 e2
    have hargs:as= #[s0,x0]:=by simpa using congrArg List.toArray e1
    have hats:ts= #[t,u]:=by simpa using congrArg List.toArray e2
    subst hargs;subst hats
    split at hkf
    ·rename_i e0 du s' x' h1 h2 h3 h4
     split at hkf
     ·rename_i i hi
      split at hkf
      ·rename_i z hz
       split at hkf
       ·rename_i hcc
        cases hkf
        simp only[appOk,Bool.and_eq_true,decide_eq_true_eq,beq_iff_eq] at hcc
        obtain⟨⟨c1,c2⟩,c3⟩:=hcc
        refine done_appendg I E ho h1 h2 ?_ hi hz c2 c3 h3 h4 he
        cases du<;>first |(simp at c1;done) |exact .inl ⟨_,rfl⟩ |exact .inr rfl
       ·cases hkf
      ·cases hkf
     ·cases hkf
    ·cases hkf
   ·exact op_done0 I E (kOp_plain hk hc hs) hok he
  ·split at hk
   ·rename_i s t x e0 x' ho hkop
    subst hk
    have hkf:=kOp_plain hkop rfl (fun h=>by cases h)
    rw[ho] at hkf
    simp only[kOf] at hkf
    split at hkf
    ·cases hkf
    ·cases hkf
    ·rename_i h1 h2 h3
     split at hkf
     ·rename_i h4
      cases hkf
      exact done_toBytesG I E ho h1 h2 h4 h3 he
     ·cases hkf
    ·split at hkf<;>cases hkf
    ·cases hkf
   ·exact op_done0 I E (kOp_plain hk hc hs) hok he
  ·split at hk
   ·rename_i t len parts ho
    split at hk
    ·rename_i e h1
     split at hk
     ·rename_i n z ps h2 h3 h4
      split at hk
      ·rename_i hlim
       subst hk
       rw[h2] at h4
       exact done_bsliceG I E ho h1 h2 h3 h4 hlim he
      ·exact op_done0 I E (kOp_plain hk hc hs) hok he
     ·exact op_done0 I E (kOp_plain hk hc hs) hok he
    ·exact op_done0 I E (kOp_plain hk hc hs) hok he
   ·exact op_done0 I E (kOp_plain hk hc hs) hok he
  ·split at hk
   ·rename_i t zs ho hkop
    subst hk
    have hkf:=kOp_plain hkop rfl (fun h=>by cases h)
    rw[ho] at hkf
    obtain⟨z,hz,hzz⟩:=Option.map_eq_some_iff.1 hkf
    cases hzz
    exact done_allocB I ho hz he
   ·exact op_done0 I E (kOp_plain hk hc hs) hok he
  ·split at hk
   ·rename_i t x0 x ho hkop
    subst hk
    have hkf:=kOp_plain hkop rfl (fun h=>by cases h)
    rw[ho] at hkf
    obtain⟨y,hy,hyy⟩:=Option.map_eq_some_iff.1 hkf
    cases hyy
    exact done_boxB I E ho hy he
   ·exact op_done0 I E (kOp_plain hk hc hs) hok he
  ·exact op_done0 I E (kOp_plain hk hc hs) hok he
 ·exact absurd hk.symm hs
variable {P : Program} {G : Nat → Option (List PD)} {γ : Gh} {H : Hp} {w : World}
theorem renL_get{bi ti:Nat→Option Nat}:∀{ds ds':List D},D.renL bi ti ds=some ds'→ds'.length=ds.length∧∀(i:Nat) d,ds'[i]? =some d→∃c,ds[i]? =some c∧c.ren bi ti=some d
 |[],ds',h=>by simp only[D.renL] at h;cases h;exact⟨rfl,fun i d h=>by simp at h⟩
 |c::r,ds',h=>by
  simp only[D.renL] at h
  split at h
  ·rename_i x hx
   obtain⟨r',hr,rfl⟩:=Option.map_eq_some_iff.1 h
   obtain⟨h1,h2⟩:=renL_get hr
   refine⟨by simp[h1],fun i d hd=>?_⟩
   match i with
   | 0=>simp only[List.getElem?_cons_zero,Option.some.injEq] at hd;subst hd;exact⟨c,rfl,hx⟩
   |i+1=>exact h2 i d (by simpa using hd)
  ·cases h
theorem ren_one{bi ti:Nat→Option Nat}{d d':D}(h:d.ren bi ti=some d')(h1:d.one=true):d'.one=true:=by
 cases d<;>simp only[D.ren] at h<;>first |(simp[D.one] at h1;done) |(cases h;exact h1) |skip
 ·split at h<;>cases h<;>rfl
 ·obtain⟨j,_,rfl⟩:=Option.map_eq_some_iff.1 h;rfl
 ·split at h
  ·cases h;rfl
  ·cases h
 all_goals obtain⟨j,_,rfl⟩:=Option.map_eq_some_iff.1 h;rfl
structure Ren (γ1 γ2:Gh) (bi ti:Nat→Option Nat):Prop where
 base:γ2.base=γ1.base
 tys:∀b x,γ1.tys b=some x→γ2.tys b=some x
 mem:Mem.le γ1.mem γ2.mem
 box:∀i j b,bi i=some j→γ1.boxes[i]? =some b→γ2.boxes[j]? =some b
 row:∀(t u:Nat) row,ti t=some u→γ1.rows[t]? =some row→∃row',γ2.rows[u]? =some row'∧row'.e=row.e∧row'.sz=row.sz∧∀n x,row.st n=some x→row'.st n=some x
theorem ren_rep{γ1 γ2:Gh}{bi ti:Nat→Option Nat}(R:Ren γ1 γ2 bi ti){v:Value}{d:D}(r:RepD γ1 v d):∀{d':D},d.ren bi ti=some d'→RepD γ2 v d':=by
 induction r with
 |dead v=>intro d' h;simp only[D.ren] at h;cases h;exact .dead v
 |undef=>intro d' h;simp only[D.ren] at h;cases h;exact .undef
 |p v x hx=>intro d' h;simp only[D.ren] at h;cases h;exact .p v x (hx.mono R.mem)
 |fsl b n e sz es hb ht hn hx=>intro d' h;simp only[D.ren] at h;cases h;exact .fsl b n e sz es (R.base▸hb) (R.tys _ _ ht) hn (hx.mono R.mem)
 |tsl v t e sz es row r h1 h2 h3 h4 h5 h6=>
  intro d' h
  simp only[D.ren] at h
  split at h
  ·rename_i u hu
   cases h
   obtain⟨row',a1,a2,a3,a4⟩:=R.row t u row hu h1
   exact .tsl v u e sz es row' r a1 (a2.trans h2) (a3.trans h3) (h4.mono R.mem) (a4 _ _ h5) h6
  ·cases h
   exact .p _ _ (h4.mono R.mem)
 |box i off b hb=>
  intro d' h
  simp only[D.ren] at h
  obtain⟨j,hj,rfl⟩:=Option.map_eq_some_iff.1 h
  exact .box j off b (R.box i j b hj hb)
 |glob g off=>intro d' h;simp only[D.ren] at h;cases h;exact .glob g off
 |ro b o off cs vs hm hr=>intro d' h;simp only[D.ren] at h;cases h;exact .ro b o off cs vs (fun j hj=>R.mem _ _ _ (hm j hj)) (fun j c hc=>⟨(hr j c hc).1.mono R.mem,(hr j c hc).2⟩)
 |agg cs ds hl hone hr ih=>
  intro d' h
  simp only[D.ren] at h
  obtain⟨ds',hd,rfl⟩:=Option.map_eq_some_iff.1 h
  obtain⟨h1,h2⟩:=renL_get hd
  refine .agg cs ds' (hl.trans h1.symm) (fun d hd'=>?_) (fun i d hi=>?_)
  ·obtain⟨i,hi⟩:=List.getElem?_of_mem hd'
   obtain⟨c,a1,a2⟩:=h2 i d hi
   exact ren_one a2 (hone c (List.mem_of_getElem? a1))
  ·obtain⟨c,a1,a2⟩:=h2 i d hi
   exact ih i c a1 a2
 |tup cs ds hl hr ih=>
  intro d' h
  simp only[D.ren] at h
  obtain⟨ds',hd,rfl⟩:=Option.map_eq_some_iff.1 h
  obtain⟨h1,h2⟩:=renL_get hd
  refine .tup cs ds' (hl.trans h1.symm) (fun i d hi=>?_)
  obtain⟨c,a1,a2⟩:=h2 i d hi
  exact ih i c a1 a2
 |fn f as cs ds es hl hr kl kr ih ih'=>
  intro d' h
  simp only[D.ren] at h
  split at h
  ·rename_i a' c' ha hc
   cases h
   obtain⟨h1,h2⟩:=renL_get ha
   obtain⟨h3,h4⟩:=renL_get hc
   refine .fn f as cs a' c' (hl.trans h1.symm) (fun i d hi=>?_) (kl.trans h3.symm) (fun i d hi=>?_)
   ·obtain⟨c,a1,a2⟩:=h2 i d hi
    exact ih i c a1 a2
   ·obtain⟨c,a1,a2⟩:=h4 i d hi
    exact ih' i c a1 a2
  ·cases h
 |msl i off n cap sz b c hb hc hcap=>
  intro d' h
  simp only[D.ren] at h
  obtain⟨j,hj,rfl⟩:=Option.map_eq_some_iff.1 h
  exact .msl j off n cap sz b c (R.box i j b hj hb) hc hcap
 |gsl i e n sz b c hb hc hm hk ht=>
  intro d' h
  simp only[D.ren] at h
  obtain⟨j,hj,rfl⟩:=Option.map_eq_some_iff.1 h
  exact .gsl j e n sz b c (R.box i j b hj hb) hc hm hk (R.tys _ _ ht)
 |esl a sz=>intro d' h;simp only[D.ren] at h;cases h;exact .esl a sz
 |csl a n sz es hn hx=>intro d' h;simp only[D.ren] at h;cases h;exact .csl a n sz es hn (hx.mono R.mem)
 |ifc t v d _ ih=>
  intro d' h
  simp only[D.ren] at h
  obtain⟨x,hx,rfl⟩:=Option.map_eq_some_iff.1 h
  exact .ifc t v x (ih hx)
 |dptr b n cap d _ hn hb ih=>
  intro d' h
  simp only[D.ren] at h
  obtain⟨x,hx,rfl⟩:=Option.map_eq_some_iff.1 h
  exact .dptr b n cap x (ih hx) hn (R.base▸hb)
 |anyp p=>intro d' h;simp only[D.ren] at h;cases h;exact .anyp p
 |fresh T n i b hb ht=>
  intro d' h
  simp only[D.ren] at h
  obtain⟨j,hj,rfl⟩:=Option.map_eq_some_iff.1 h
  exact .fresh T n j b (R.box i j b hj hb) (R.tys _ _ ht)
 |mapr i b hb=>
  intro d' h
  simp only[D.ren] at h
  obtain⟨j,hj,rfl⟩:=Option.map_eq_some_iff.1 h
  exact .mapr j b (R.box i j b hj hb)
 |mapc as cs kd ks ds s hl kl dl hs hj hg hr hd kr ih=>
  intro d' h
  simp only[D.ren] at h
  obtain⟨vs',hv,rfl⟩:=Option.map_eq_some_iff.1 h
  obtain⟨h1,h2⟩:=renL_get hv
  refine .mapc as cs kd ks vs' s hl kl (h1.trans dl) hs hj hg (fun i x hx=>⟨(hr i x hx).1.mono R.mem,(hr i x hx).2⟩) hd (fun i d hi=>?_)
  obtain⟨c,a1,a2⟩:=h2 i d hi
  exact ih i c a1 a2
def isMap1:D→Bool
 | .mapc _ _ _=>true
 |_=>false
theorem isMapC_one1(d:D):isMapC [d]=isMap1 d:=by cases d<;>rfl
theorem isMapC_two(d e:D)(r:List D):isMapC (d::e::r)=false:=by simp[isMapC]
theorem ren_map1{bi ti:Nat→Option Nat}{d d':D}(h:D.ren bi ti d=some d'):isMap1 d'=isMap1 d:=by
 cases d with
 |tsl t e sz es=>
  simp only[D.ren] at h
  split at h<;>cases h<;>rfl
 |fn f a c=>
  simp only[D.ren] at h
  split at h<;>cases h;rfl
 |_=>
  first
   |(simp only[D.ren,Option.some.injEq] at h;subst h;rfl)
   |(simp only[D.ren] at h;obtain⟨x,_,rfl⟩:=Option.map_eq_some_iff.1 h;rfl)
theorem renL_map{bi ti:Nat→Option Nat}{cs cs':List D}(h:D.renL bi ti cs=some cs'):isMapC cs'=isMapC cs:=by
 match cs with
 |[]=>simp only[D.renL,Option.some.injEq] at h;subst h;rfl
 |[d]=>
  simp only[D.renL] at h
  split at h
  ·rename_i x hx
   simp only[Option.map_some,Option.some.injEq] at h
   subst h
   rw[isMapC_one1,isMapC_one1,ren_map1 hx]
  ·cases h
 |d::e::r=>
  have hl:=(renL_get h).1
  match cs',hl with
  |a::b::q,_=>rw[isMapC_two,isMapC_two]
theorem renL_rep{γ1 γ2:Gh}{bi ti:Nat→Option Nat}(R:Ren γ1 γ2 bi ti){vs:Array Value}{ds ds':List D}(r:RepL γ1 vs ds)(h:D.renL bi ti ds=some ds'):RepL γ2 vs ds':=by
 obtain⟨h1,h2⟩:=renL_get h
 refine⟨r.1.trans h1.symm,fun i d hi=>?_⟩
 obtain⟨c,a1,a2⟩:=h2 i d hi
 exact ren_rep R (r.2 i c a1) a2
theorem renB_rep{γ1 γ2:Gh}{bi ti:Nat→Option Nat}(R:Ren γ1 γ2 bi ti){vs:Array Value}{ds ds':List D}(r:RepB γ1 vs ds)(h:D.renL bi ti ds=some ds'):RepB γ2 vs ds':=by
 obtain⟨h1,h2⟩:=renL_get h
 refine⟨by rw[h1];exact r.1,fun i d hi=>?_⟩
 obtain⟨c,a1,a2⟩:=h2 i d hi
 exact ren_rep R (r.2 i c a1) a2
theorem renL_ne{bi ti:Nat→Option Nat}{ds ds':List D}(h:D.renL bi ti ds=some ds')(hn:ds'≠[]):ds≠[]:=by
 obtain⟨h1,_⟩:=renL_get h
 intro e;subst e
 exact hn (by simpa using h1)
theorem renL_ones{bi ti:Nat→Option Nat}{ds ds':List D}(h:D.renL bi ti ds=some ds')(h1:∀d∈ds,d.one=true):∀d∈ds',d.one=true:=by
 obtain⟨_,h2⟩:=renL_get h
 intro d hd
 obtain⟨i,hi⟩:=List.getElem?_of_mem hd
 obtain⟨c,a1,a2⟩:=h2 i d hi
 exact ren_one a2 (h1 c (List.mem_of_getElem? a1))
theorem idx_some:∀{l:List Nat} {i j:Nat},idx l i=some j→l[j]? =some i
 |[],i,j,h=>by cases h
 |a::r,i,j,h=>by
  simp only[idx] at h
  split at h
  ·rename_i e;cases h;simp[e]
  ·obtain⟨k,hk,rfl⟩:=Option.map_eq_some_iff.1 h
   simpa using idx_some hk
theorem nodupB_iff:∀{l:List Nat},nodupB l=true→l.Nodup
 |[],_=>List.nodup_nil
 |a::r,h=>by
  simp only[nodupB,Bool.and_eq_true,Bool.not_eq_true',List.contains_eq_mem,decide_eq_false_iff_not] at h
  exact List.nodup_cons.2 ⟨h.1,nodupB_iff h.2⟩
theorem putAll_length{α:Type}:∀(is:List Nat) (l xs:List α),(putAll l is xs).length=l.length
 |[],l,xs=>by simp[putAll]
 |i::is,l,[]=>by simp[putAll]
 |i::is,l,x::xs=>by simp[putAll,putAll_length is]
theorem putAll_out{α:Type}:∀(is:List Nat) (l xs:List α) (i:Nat),i∉is→(putAll l is xs)[i]? =l[i]?
 |[],l,xs,i,_=>by simp[putAll]
 |k::is,l,[],i,_=>by simp[putAll]
 |k::is,l,x::xs,i,h=>by
  simp only[List.mem_cons,not_or] at h
  simp only[putAll]
  rw[putAll_out is _ _ i h.2,List.getElem?_set_ne (Ne.symm h.1)]
theorem putAll_in{α:Type}:∀(is:List Nat) (l xs:List α) (j i:Nat),is.Nodup→is[j]? =some i→i<l.length→j<xs.length→(putAll l is xs)[i]? =xs[j]?
 |[],l,xs,j,i,_,h,_,_=>by simp at h
 |k::is,l,[],j,i,_,_,_,h=>by simp at h
 |k::is,l,x::xs,j,i,hn,hj,hi,hx=>by
  obtain⟨n1,n2⟩:=List.nodup_cons.1 hn
  simp only[putAll]
  match j with
  | 0=>
   simp only[List.getElem?_cons_zero,Option.some.injEq] at hj
   subst hj
   rw[putAll_out is _ _ k n1]
   simp[hi]
  |j+1=>
   rw[putAll_in is _ xs j i n2 (by simpa using hj) (by simpa using hi) (by simpa using hx)]
   simp
theorem nodup_get{l:List Nat}(h:l.Nodup){i j a:Nat}(hi:l[i]? =some a)(hj:l[j]? =some a):i=j:=by
 have hlt:=(List.getElem?_eq_some_iff.1 hi).1
 exact(List.getElem?_inj hlt h).1 (hi.trans hj.symm)
theorem firstN_some{α:Type}{l l':List α}{n:Nat}(h:firstN l n=some l'):n≤l.length∧l'=l.take n:=by
 unfold firstN at h
 split at h
 ·rename_i hn;cases h;exact⟨hn,rfl⟩
 ·cases h
def Gh.part(γ:Gh)(ids tks:List Nat):Gh:=
 {base:=γ.base,tys:=γ.tys,mem:=γ.mem,boxes:=ids.map fun i=>(γ.boxes[i]?).getD 0,rows:=tks.map fun t=>(γ.rows[t]?).getD ⟨0,0,fun _=>none⟩}
theorem part_boxes{ids tks:List Nat}{j b:Nat}:(γ.part ids tks).boxes[j]? =some b↔∃i,ids[j]? =some i∧(γ.boxes[i]?).getD 0=b:=by
 simp[Gh.part,List.getElem?_map,Option.map_eq_some_iff]
theorem part_rows{ids tks:List Nat}{j:Nat}{row:Row}:(γ.part ids tks).rows[j]? =some row↔∃t,tks[j]? =some t∧(γ.rows[t]?).getD ⟨0,0,fun _=>none⟩=row:=by
 simp[Gh.part,List.getElem?_map,Option.map_eq_some_iff]
section
variable {ids tks : List Nat} {bx : List (List D)} {tk : List Nat}
 (hni:ids.Nodup) (hnt:tks.Nodup) (hbx:mapO (fun i=>match H.bx[i]? with |some cs=>D.renL (idx ids) (idx tks) cs |none=>none) ids=some bx) (htk:mapO (fun t=>H.tk[t]?) tks=some tk)
include hni hnt hbx htk
omit hni hnt htk in
theorem part_box_of(I:Inv G γ H w){j b:Nat}(h:(γ.part ids tks).boxes[j]? =some b):∃i,ids[j]? =some i∧γ.boxes[i]? =some b:=by
 obtain⟨i,hi,hb⟩:=part_boxes.1 h
 obtain⟨_,m2⟩:=mapO_get hbx
 obtain⟨y,hy,_⟩:=m2 j i hi
 have hlt:i<γ.boxes.length:=by
  rw[I.lenB]
  split at hy
  ·rename_i cs hcs;exact(List.getElem?_eq_some_iff.1 hcs).1
  ·cases hy
 rw[List.getElem?_eq_getElem hlt] at hb
 exact⟨i,hi,by rw[List.getElem?_eq_getElem hlt];simpa using hb⟩
omit hni hnt hbx in
theorem part_row_of(I:Inv G γ H w){j:Nat}{row:Row}(h:(γ.part ids tks).rows[j]? =some row):∃t,tks[j]? =some t∧γ.rows[t]? =some row:=by
 obtain⟨t,hi,hb⟩:=part_rows.1 h
 obtain⟨_,m2⟩:=mapO_get htk
 obtain⟨y,hy,_⟩:=m2 j t hi
 have hlt:t<γ.rows.length:=by rw[I.lenT];exact(List.getElem?_eq_some_iff.1 hy).1
 rw[List.getElem?_eq_getElem hlt] at hb
 exact⟨t,hi,by rw[List.getElem?_eq_getElem hlt];simpa using hb⟩
omit hni hnt hbx in
theorem part_tk{j t f:Nat}(h1:tks[j]? =some t)(h2:tk[j]? =some f):H.tk[t]? =some f:=by
 obtain⟨_,m2⟩:=mapO_get htk
 obtain⟨y,hy,hy'⟩:=m2 j t h1
 rw[h2] at hy'
 cases hy'
 exact hy
omit hni hnt hbx htk in
theorem part_ren:Ren γ (γ.part ids tks) (idx ids) (idx tks):=by
 refine⟨rfl,fun _ _ h=>h,fun _ _ _ h=>h,fun i j b h hb=>part_boxes.2 ⟨i,idx_some h,by rw[hb];rfl⟩,fun t u row h hr=>⟨row,part_rows.2 ⟨t,idx_some h,by rw[hr];rfl⟩,rfl,rfl,fun _ _ h=>h⟩⟩
omit hni hnt htk in
theorem part_mem(I:Inv G γ H w){b:Nat}(h:b∈(γ.part ids tks).boxes):b∈γ.boxes:=by
 obtain⟨j,hj⟩:=List.getElem?_of_mem h
 obtain⟨i,_,hi⟩:=part_box_of hbx I hj
 exact List.mem_of_getElem? hi
omit hni hnt htk in
theorem part_lv(I:Inv G γ H w){j b:Nat}{cs:List D}(h:(γ.part ids tks).boxes[j]? =some b)(hc:bx[j]? =some cs):∃(i:Nat) (c0:List D),ids[j]? =some i∧γ.boxes[i]? =some b∧H.bx[i]? =some c0∧D.renL (idx ids) (idx tks) c0=some cs:=by
 obtain⟨i,hi,hbi⟩:=part_box_of hbx I h
 obtain⟨i',h1,h2⟩:=mapO_back hbx hc
 rw[hi] at h1
 cases h1
 split at h2
 ·rename_i c0 hc0
  exact⟨i,c0,hi,hbi,hc0,h2⟩
 ·cases h2
omit hni hnt htk in
theorem part_lv'(I:Inv G γ H w){b:Nat}(h:Lv (γ.part ids tks) ⟨bx,tk⟩ b):∃(i j:Nat) (c0:List D),ids[j]? =some i∧γ.boxes[i]? =some b∧H.bx[i]? =some c0∧c0≠[]:=by
 obtain⟨j,cs,h1,h2,h3⟩:=h
 obtain⟨i,c0,q1,q2,q3,q4⟩:=part_lv hbx I h1 h2
 exact⟨i,j,c0,q1,q2,q3,renL_ne q4 h3⟩
omit hni hnt hbx in
theorem part_free(I:Inv G γ H w){j b:Nat}(h:Free (γ.part ids tks) ⟨bx,tk⟩ j b):∃t,tks[j]? =some t∧Free γ H t b:=by
 obtain⟨row,f,cap,h1,h2,h3,h4⟩:=h
 obtain⟨t,ht,hr⟩:=part_row_of htk I h1
 exact⟨t,ht,row,f,cap,hr,part_tk htk ht h2,h3,h4⟩
theorem part_inv(I:Inv G γ H w):Inv G (γ.part ids tks) ⟨bx,tk⟩ w:=by
 have hR:=part_ren (γ:=γ) (ids:=ids) (tks:=tks)
 constructor
 ·exact I.size
 ·exact I.tys
 ·intro j row n b cap h1 h2
  obtain⟨t,_,hr⟩:=part_row_of htk I h1
  exact I.rowb t row n b cap hr h2
 ·exact I.mem
 ·exact I.globs
 ·simp[Gh.part,(mapO_get hbx).1]
 ·intro j k b cj ck h1 h2 h3 h4 n1 n2
  obtain⟨i,c0,q1,q2,q3,q4⟩:=part_lv hbx I h1 h3
  obtain⟨i',c1,r1,r2,r3,r4⟩:=part_lv hbx I h2 h4
  have:=I.nodup i i' b c0 c1 q2 r2 q3 r3 (renL_ne q4 n1) (renL_ne r4 n2)
  subst this
  exact nodup_get hni q1 r1
 ·intro j b cs hb hc
  obtain⟨i,hi,hbi⟩:=part_box_of hbx I hb
  have hc:bx[j]? =some cs:=hc
  obtain⟨i',h1,h2⟩:=mapO_back hbx hc
  rw[hi] at h1
  cases h1
  split at h2
  ·rename_i cs0 hcs0
   obtain⟨vs,T,fr,q1,q2,q3,q4⟩:=I.box i b cs0 hbi hcs0
   exact⟨vs,T,fr,(viewC_same (renL_map h2) _).trans q1,renB_rep hR q2 h2,fun hm=>renL_ones h2 (q3 ((renL_map h2).symm.trans hm)),fun hn=>q4 (renL_ne h2 hn)⟩
  ·cases h2
 ·intro b o hb
  obtain⟨i,_,c0,_,h1,h2,h3⟩:=part_lv' hbx I hb
  exact I.boxmem b o ⟨i,c0,h1,h2,h3⟩
 ·intro j b h1 h2
  obtain⟨i,c0,q1,q2,q3,q4⟩:=part_lv hbx I h1 h2
  have h0:c0=[]:=by
   cases c0 with
   |nil=>rfl
   |cons d r=>have:=(renL_get q4).1;simp at this
  subst h0
  exact I.empt i b q2 q3
 ·simp[Gh.part,(mapO_get htk).1]
 ·intro j row f h1 h2
  obtain⟨t,ht,hr⟩:=part_row_of htk I h1
  obtain⟨r,q1,q2⟩:=I.row t row f hr (part_tk htk ht h2)
  exact⟨r,q1,q2.keep (fun _ _ h=>h) (fun _ _ _ _=>rfl) (fun _ _ _ _ _=>rfl) (fun b cap _ _ hb hb'=>hb (part_mem hbx I hb'))⟩
 ·intro j row f h1 h2
  obtain⟨t,ht,hr⟩:=part_row_of htk I h1
  exact I.rowmax t row f hr (part_tk htk ht h2)
 ·intro j k b h h'
  obtain⟨t,h1,h2⟩:=part_free htk I h
  obtain⟨t',h3,h4⟩:=part_free htk I h'
  have:=I.free t t' b h2 h4
  subst this
  exact nodup_get hnt h1 h3
def Gh.whole(γ γl:Gh)(ids tks:List Nat)(kept:Bool):Gh:=
 {base:=γ.base,tys:=γl.tys,mem:=γl.mem,boxes:=γ.boxes++(if kept then γl.boxes.drop ids.length else[]),rows:=putAll γ.rows tks (γl.rows.take tks.length)}
omit hni hbx htk hnt in
theorem whole_row_in{γl:Gh}{kept:Bool}(hnt:tks.Nodup){j t:Nat}(hj:tks[j]? =some t)(ht:t<γ.rows.length)(hl:tks.length≤γl.rows.length):(γ.whole γl ids tks kept).rows[t]? =γl.rows[j]?:=by
 have hj':=(List.getElem?_eq_some_iff.1 hj).1
 simp only[Gh.whole]
 rw[putAll_in tks γ.rows _ j t hnt hj ht (by simp;omega),List.getElem?_take,if_pos hj']
theorem whole_ok(I:Inv G γ H w){γl:Gh}{Hl:Hp}{w':World}(L:(γ.part ids tks).le γl)(F:Frame (γ.part ids tks) ⟨bx,tk⟩ w γl Hl w')(J:Inv G γl Hl w')(kept:Bool){bx' nw:List (List D)}{bi:Nat→Option Nat}
    (hm:ids.length≤Hl.bx.length) (ht:tks.length≤Hl.tk.length)
    (hbi:∀i j,bi i=some j→(i<ids.length∧ids[i]? =some j)∨(kept=true∧ids.length≤i∧j=H.bx.length+(i-ids.length)))
    (hb:mapO (D.renL bi fun t=>tks[t]?) (Hl.bx.take ids.length)=some bx') (hn:if kept then mapO (D.renL bi fun t=>tks[t]?) (Hl.bx.drop ids.length)=some nw else nw=[]):
    Ren γl (γ.whole γl ids tks kept) bi (fun t=>tks[t]?)∧γ.le (γ.whole γl ids tks kept)∧Frame γ H w (γ.whole γl ids tks kept) ⟨putAll H.bx ids bx'++nw,putAll H.tk tks (Hl.tk.take tks.length)⟩ w'∧
     Inv G (γ.whole γl ids tks kept) ⟨putAll H.bx ids bx'++nw,putAll H.tk tks (Hl.tk.take tks.length)⟩ w':=by
 have hlb:γl.boxes.length=Hl.bx.length:=J.lenB
 have hlt:γl.rows.length=Hl.tk.length:=J.lenT
 have hids:∀(j i:Nat),ids[j]? =some i→i<γ.boxes.length:=fun j i h=>by
  obtain⟨_,m2⟩:=mapO_get hbx
  obtain⟨y,hy,_⟩:=m2 j i h
  rw[I.lenB]
  split at hy
  ·rename_i cs hcs;exact(List.getElem?_eq_some_iff.1 hcs).1
  ·cases hy
 have htks:∀(j t:Nat),tks[j]? =some t→t<γ.rows.length:=fun j t h=>by
  obtain⟨_,m2⟩:=mapO_get htk
  obtain⟨y,hy,_⟩:=m2 j t h
  rw[I.lenT];exact(List.getElem?_eq_some_iff.1 hy).1
 have hold:∀(j i:Nat),ids[j]? =some i→∃b,γ.boxes[i]? =some b∧γl.boxes[j]? =some b:=fun j i h=>by
  have hi:=hids j i h
  refine⟨γ.boxes[i],List.getElem?_eq_getElem hi,L.boxes j _ (part_boxes.2 ⟨i,h,by rw[List.getElem?_eq_getElem hi];rfl⟩)⟩
 have hnew:∀b,Lv γl Hl b→(∃(i j:Nat) (c0:List D),ids[j]? =some i∧γ.boxes[i]? =some b∧H.bx[i]? =some c0∧c0≠[])∨w.heap.size≤b:=fun b hb=>by
  rcases F.box b hb with h |h
  ·exact .inl (part_lv' hbx I h)
  ·exact .inr h
 have hbl:bx'.length=ids.length:=by rw[(mapO_get hb).1];simp;omega
 have hcase:∀(m b:Nat) cs,(γ.whole γl ids tks kept).boxes[m]? =some b→(putAll H.bx ids bx'++nw)[m]? =some cs→
     (∃(k:Nat) (c0:List D),γl.boxes[k]? =some b∧Hl.bx[k]? =some c0∧D.renL bi (fun t=>tks[t]?) c0=some cs∧((k<ids.length∧ids[k]? =some m)∨(kept=true∧ids.length≤k∧m=H.bx.length+(k-ids.length))))∨(m∉ids∧γ.boxes[m]? =some b∧H.bx[m]? =some cs):=fun m b cs h1 h2=>by
  simp only[Gh.whole] at h1
  by_cases hi:m<γ.boxes.length
  ·rw[List.getElem?_append_left hi] at h1
   rw[List.getElem?_append_left (by rw[putAll_length,←I.lenB];exact hi)] at h2
   by_cases hin:m∈ids
   ·obtain⟨k,hk⟩:=List.getElem?_of_mem hin
    have hkl:=(List.getElem?_eq_some_iff.1 hk).1
    rw[putAll_in ids H.bx bx' k m hni hk (by rw[←I.lenB];exact hi) (by omega)] at h2
    obtain⟨c0,a1,a2⟩:=mapO_back hb h2
    rw[List.getElem?_take,if_pos hkl] at a1
    obtain⟨b',c1,c2⟩:=hold k m hk
    rw[h1] at c1
    cases c1
    exact .inl ⟨k,c0,c2,a1,a2,.inl ⟨hkl,hk⟩⟩
   ·rw[putAll_out ids _ _ m hin] at h2
    exact .inr ⟨hin,h1,h2⟩
  ·rw[List.getElem?_append_right (by omega)] at h1
   rw[List.getElem?_append_right (by rw[putAll_length,←I.lenB];omega),putAll_length,←I.lenB] at h2
   cases kept with
   |false=>simp at h1
   |true=>
    simp only[if_true] at h1 hn
    rw[List.getElem?_drop] at h1
    obtain⟨c0,a1,a2⟩:=mapO_back hn h2
    rw[List.getElem?_drop] at a1
    exact .inl ⟨_,c0,h1,a1,a2,.inr ⟨rfl,by omega,by rw[←I.lenB];omega⟩⟩
 have hLv:∀b,Lv (γ.whole γl ids tks kept) ⟨putAll H.bx ids bx'++nw,putAll H.tk tks (Hl.tk.take tks.length)⟩ b→Lv γl Hl b∨∃(m:Nat) (cs:List D),m∉ids∧γ.boxes[m]? =some b∧H.bx[m]? =some cs∧cs≠[]:=fun b h=>by
  obtain⟨m,cs,h1,h2,h3⟩:=h
  rcases hcase m b cs h1 h2 with⟨k,c0,a1,a2,a3,_⟩ |⟨a1,a2,a3⟩
  ·exact .inl ⟨k,c0,a1,a2,renL_ne a3 h3⟩
  ·exact .inr ⟨m,cs,a1,a2,a3,h3⟩
 have hapart:∀(m b:Nat) cs,m∉ids→γ.boxes[m]? =some b→H.bx[m]? =some cs→cs≠[]→¬Lv γl Hl b:=fun m b cs h1 h2 h3 h4 h=>by
  rcases hnew b h with⟨i,j,c0,a1,a2,a3,a4⟩ |h
  ·have:=I.nodup m i b cs c0 h2 a2 h3 a3 h4 a4
   subst this
   exact h1 (List.mem_of_getElem? a1)
  ·have:=I.lt_of_box (List.mem_of_getElem? h2);omega
 have hmemb:∀b,b∈(γ.whole γl ids tks kept).boxes→b∈γ.boxes∨(kept=true∧∃j,ids.length≤j∧γl.boxes[j]? =some b):=fun b h=>by
  simp only[Gh.whole] at h
  rcases List.mem_append.1 h with h |h
  ·exact .inl h
  ·cases kept with
   |false=>simp at h
   |true=>
    simp only[if_true] at h
    obtain⟨j,hj⟩:=List.getElem?_of_mem h
    rw[List.getElem?_drop] at hj
    exact .inr ⟨rfl,ids.length+j,by omega,hj⟩
 have hmb:∀b,b∈(γ.whole γl ids tks kept).boxes→b∈γ.boxes∨w.heap.size≤b:=fun b h=>by
  rcases hmemb b h with h |⟨_,j,_,h2⟩
  ·exact .inl h
  ·rcases F.bxs b (List.mem_of_getElem? h2) with h |h
   ·exact .inl (part_mem hbx I h)
   ·exact .inr h
 have hRow:∀(t:Nat) row f,(γ.whole γl ids tks kept).rows[t]? =some row→(putAll H.tk tks (Hl.tk.take tks.length))[t]? =some f→
     (∃j,tks[j]? =some t∧γl.rows[j]? =some row∧Hl.tk[j]? =some f)∨(t∉tks∧γ.rows[t]? =some row∧H.tk[t]? =some f):=fun t row f h1 h2=>by
  by_cases hin:t∈tks
  ·obtain⟨j,hj⟩:=List.getElem?_of_mem hin
   have hj':=(List.getElem?_eq_some_iff.1 hj).1
   have hl:=htks j t hj
   rw[whole_row_in hnt hj hl (by omega)] at h1
   rw[putAll_in tks H.tk _ j t hnt hj (by rw[←I.lenT];exact hl) (by simp;omega),List.getElem?_take,if_pos hj'] at h2
   exact .inl ⟨j,hj,h1,h2⟩
  ·simp only[Gh.whole] at h1
   rw[putAll_out tks _ _ t hin] at h1 h2
   exact .inr ⟨hin,h1,h2⟩
 have hFree:∀t b,Free (γ.whole γl ids tks kept) ⟨putAll H.bx ids bx'++nw,putAll H.tk tks (Hl.tk.take tks.length)⟩ t b→
     (∃j,tks[j]? =some t∧Free γl Hl j b)∨(t∉tks∧Free γ H t b):=fun t b h=>by
  obtain⟨row,f,cap,h1,h2,h3,h4⟩:=h
  rcases hRow t row f h1 h2 with⟨j,a1,a2,a3⟩ |⟨a1,a2,a3⟩
  ·exact .inl ⟨j,a1,row,f,cap,a2,a3,h3,h4⟩
  ·exact .inr ⟨a1,row,f,cap,a2,a3,h3,h4⟩
 have hFl:∀j b,Free γl Hl j b→(∃t,tks[j]? =some t∧Free γ H t b)∨w.heap.size≤b:=fun j b h=>by
  rcases F.fre j b h with h |h
  ·exact .inl (part_free htk I h)
  ·exact .inr h
 have hOwn:∀b,Owned (γ.part ids tks) ⟨bx,tk⟩ b→Owned γ H b:=fun b h=>by
  rcases h with h |⟨j,h⟩
  ·obtain⟨i,_,c0,_,h1,h2,h3⟩:=part_lv' hbx I h
   exact .inl ⟨i,c0,h1,h2,h3⟩
  ·obtain⟨t,_,h⟩:=part_free htk I h
   exact .inr ⟨t,h⟩
 have hle:γ.le (γ.whole γl ids tks kept):=by
  refine⟨rfl,L.tys,L.mem,fun i b h=>?_,fun t r h=>?_⟩
  ·simp only[Gh.whole]
   rw[List.getElem?_append_left (List.getElem?_eq_some_iff.1 h).1];exact h
  ·by_cases hin:t∈tks
   ·obtain⟨j,hj⟩:=List.getElem?_of_mem hin
    have hl:=htks j t hj
    rw[whole_row_in hnt hj hl (by have:=(List.getElem?_eq_some_iff.1 hj).1;omega)]
    exact L.rows j r (part_rows.2 ⟨t,hj,by rw[h];rfl⟩)
   ·refine⟨r,?_,rfl,rfl,fun _ _ h=>h⟩
    simp only[Gh.whole]
    rw[putAll_out tks _ _ t hin];exact h
 have hR:Ren γl (γ.whole γl ids tks kept) bi (fun t=>tks[t]?):=by
  refine⟨L.base.symm,fun _ _ h=>h,fun _ _ _ h=>h,fun i j b h hb'=>?_,fun t u row h hr=>?_⟩
  ·rcases hbi i j h with⟨h1,h2⟩ |⟨h1,h2,h3⟩
   ·obtain⟨b',c1,c2⟩:=hold i j h2
    rw[hb'] at c2
    cases c2
    exact hle.boxes _ _ c1
   ·subst h1;subst h3
    simp only[Gh.whole,if_true]
    rw[←I.lenB,List.getElem?_append_right (by omega),List.getElem?_drop]
    have :ids.length+(γ.boxes.length+(i-ids.length)-γ.boxes.length)=i:=by omega
    rw[this];exact hb'
  ·have h:tks[t]? =some u:=h
   refine⟨row,?_,rfl,rfl,fun _ _ h=>h⟩
   rw[whole_row_in hnt h (htks t u h) (by have:=(List.getElem?_eq_some_iff.1 h).1;omega)]
   exact hr
 refine⟨hR,hle,⟨F.os,F.tape,F.output,F.size,fun b hb' ho=>F.blk b hb' fun h=>ho (hOwn b h),fun b o hb' ho=>F.mem b o hb' fun h=>ho (hOwn b h),fun b h=>?_,fun t b h=>?_,hmb⟩,?_⟩
 ·rcases hLv b h with h |⟨m,cs,_,h1,h2,h3⟩
  ·rcases hnew b h with⟨i,_,c0,_,h1,h2,h3⟩ |h
   ·exact .inl ⟨i,c0,h1,h2,h3⟩
   ·exact .inr h
  ·exact .inl ⟨m,cs,h1,h2,h3⟩
 ·rcases hFree t b h with⟨j,h1,h2⟩ |⟨_,h2⟩
  ·rcases hFl j b h2 with⟨t',h3,h4⟩ |h3
   ·rw[h1] at h3;cases h3;exact .inl h4
   ·exact .inr h3
  ·exact .inl h2
 ·constructor
  ·exact Nat.le_trans I.size F.size
  ·exact J.tys
  ·intro t row n b cap h1 h2
   by_cases hin:t∈tks
   ·obtain⟨j,hj⟩:=List.getElem?_of_mem hin
    rw[whole_row_in hnt hj (htks j t hj) (by have:=(List.getElem?_eq_some_iff.1 hj).1;omega)] at h1
    have:=J.rowb j row n b cap h1 h2
    have hb:γl.base=γ.base:=L.base
    show γ.base≤b
    omega
   ·simp only[Gh.whole] at h1
    rw[putAll_out tks _ _ t hin] at h1
    exact I.rowb t row n b cap h1 h2
  ·exact J.mem
  ·exact J.globs
  ·simp only[Gh.whole,List.length_append,putAll_length,I.lenB]
   congr 1
   cases kept with
   |false=>simp only[Bool.false_eq_true,if_false] at hn⊢;simp[hn]
   |true=>
    simp only[if_true] at hn⊢
    rw[(mapO_get hn).1]
    simp[hlb]
  ·intro m m' b cm cm' h1 h2 h3 h4 n1 n2
   rcases hcase m b cm h1 h3 with⟨k,c0,a1,a2,a3,a4⟩ |⟨a1,a2,a3⟩
   ·rcases hcase m' b cm' h2 h4 with⟨k',c0',b1,b2,b3,b4⟩ |⟨b1,b2,b3⟩
    ·have:=J.nodup k k' b c0 c0' a1 b1 a2 b2 (renL_ne a3 n1) (renL_ne b3 n2)
     subst this
     rcases a4 with⟨e1,e2⟩ |⟨e1,e2,e3⟩
     ·rcases b4 with⟨f1,f2⟩ |⟨f1,f2,f3⟩
      ·rw[e2] at f2;exact Option.some.inj f2
      ·omega
     ·rcases b4 with⟨f1,f2⟩ |⟨f1,f2,f3⟩
      ·omega
      ·omega
    ·exact(hapart m' b cm' b1 b2 b3 n2 ⟨k,c0,a1,a2,renL_ne a3 n1⟩).elim
   ·rcases hcase m' b cm' h2 h4 with⟨k',c0',b1,b2,b3,b4⟩ |⟨b1,b2,b3⟩
    ·exact(hapart m b cm a1 a2 a3 n1 ⟨k',c0',b1,b2,renL_ne b3 n2⟩).elim
    ·exact I.nodup m m' b cm cm' a2 b2 a3 b3 n1 n2
  ·intro i b cs hb' hc
   rcases hcase i b cs hb' hc with⟨k,c0,a1,a2,h2,_⟩ |⟨hin,a1,a2⟩
   ·obtain⟨vs,T,fr,q1,q2,q3,q4⟩:=J.box k b c0 a1 a2
    exact⟨vs,T,fr,(viewC_same (renL_map h2) _).trans q1,renB_rep hR q2 h2,fun hm=>renL_ones h2 (q3 ((renL_map h2).symm.trans hm)),fun hn=>q4 (renL_ne h2 hn)⟩
   ·by_cases h0:cs=[]
    ·subst h0
     obtain⟨x,hx⟩:=I.empt i b a1 a2
     obtain⟨vs,fr,q1,_⟩:=J.tys b x.1 x.2 (L.tys _ _ hx)
     exact⟨vs,x.1/2,fr,by rw[viewC_of rfl];exact q1,⟨Nat.zero_le _,fun i d hd=>by simp at hd⟩,fun _ c hc=>by simp at hc,fun h=>(h rfl).elim⟩
    obtain⟨vs,T,fr,q1,q2,q3,q4⟩:=I.box i b cs a1 a2
    have hno:¬Owned (γ.part ids tks) ⟨bx,tk⟩ b:=by
     rintro (h |⟨j,h⟩)
     ·obtain⟨i',j',c1,h1,h2,h3,h4⟩:=part_lv' hbx I h
      have:=I.nodup i i' b cs c1 a1 h2 a2 h3 h0 h4
      subst this
      exact hin (List.mem_of_getElem? h1)
     ·obtain⟨t,_,row,f,cap,h1,h2,h3,h4⟩:=part_free htk I h
      obtain⟨r,p1,p2⟩:=I.row t row f h1 h2
      rw[h3] at p1
      cases p1
      obtain⟨_,_,_,_,_,_,_,hnb⟩:=p2.2 h4
      exact hnb (List.mem_of_getElem? a1)
    have hbb:=List.mem_of_getElem? a1
    rcases(F.blk b (I.lt_of_box hbb) hno).2 with e |⟨us,U,fr0,fr1,e1,e2,e3⟩
    ·exact⟨vs,T,fr,by rw[e];exact q1,q2.mono hle,q3,q4⟩
    ·have hm:isMapC cs=false:=by
      cases hm:isMapC cs with
      |false=>rfl
      |true=>rw[e1] at q1;simp[viewC,hm] at q1
     rw[viewC_of hm] at q1
     rw[q1] at e1
     cases e1
     refine⟨vs,T,fr1,(viewC_of hm _).trans e2,q2.mono hle,q3,fun hn k hk hk2 hf=>?_⟩
     rcases e3 k hk2 hf with q |q
     ·exact q4 hn k hk hk2 q
     ·exact q ((F.mem b k (I.lt_of_box hbb) hno).trans (I.boxmem b k ⟨i,cs,a1,a2,h0⟩))
  ·intro b o hb'
   rcases hLv b hb' with h |⟨m,cs,h1,h2,h3,h4⟩
   ·exact J.boxmem b o h
   ·have hno:¬Owned (γ.part ids tks) ⟨bx,tk⟩ b:=by
     rintro (h' |⟨j,h'⟩)
     ·obtain⟨i',j',c1,g1,g2,g3,g4⟩:=part_lv' hbx I h'
      have:=I.nodup m i' b cs c1 h2 g2 h3 g3 h4 g4
      subst this
      exact h1 (List.mem_of_getElem? g1)
     ·obtain⟨t,_,row,f,cap,g1,g2,g3,g4⟩:=part_free htk I h'
      obtain⟨r,p1,p2⟩:=I.row t row f g1 g2
      rw[g3] at p1
      cases p1
      obtain⟨_,_,_,_,_,_,_,hnb⟩:=p2.2 g4
      exact hnb (List.mem_of_getElem? h2)
    have:=F.mem b o (I.lt_of_box (List.mem_of_getElem? h2)) hno
    show γl.mem b o=none
    rw[this]
    exact I.boxmem b o ⟨m,cs,h2,h3,h4⟩
  ·intro i b h1 h2
   rcases hcase i b [] h1 h2 with⟨k,c0,a1,a2,a3,_⟩ |⟨_,a1,a2⟩
   ·have h0:c0=[]:=by
     cases c0 with
     |nil=>rfl
     |cons d r=>have:=(renL_get a3).1;simp at this
    subst h0
    exact J.empt k b a1 a2
   ·obtain⟨x,hx⟩:=I.empt i b a1 a2
    exact⟨x,L.tys _ _ hx⟩
  ·simp[Gh.whole,putAll_length,I.lenT]
  ·intro t row f h1 h2
   rcases hRow t row f h1 h2 with⟨j,a1,a2,a3⟩ |⟨a1,a2,a3⟩
   ·obtain⟨r,q1,q2⟩:=J.row j row f a2 a3
    refine⟨r,q1,q2.keep (fun _ _ h=>h) (fun _ _ _ _=>rfl) (fun _ _ _ _ _=>rfl) (fun b cap hr hlt hnb hb'=>?_)⟩
    rcases hmemb b hb' with h |⟨_,k,_,h⟩
    ·rcases hFl j b ⟨row,f,cap,a2,a3,hr▸q1,hlt⟩ with⟨t',_,row',f',cap',c1,c2,c3,c4⟩ |h'
     ·obtain⟨r',p1,p2⟩:=I.row t' row' f' c1 c2
      rw[c3] at p1
      cases p1
      obtain⟨_,_,_,_,_,_,_,hnb'⟩:=p2.2 c4
      exact hnb' h
     ·have:=I.lt_of_box h;omega
    ·exact hnb (List.mem_of_getElem? h)
   ·obtain⟨r,q1,q2⟩:=I.row t row f a2 a3
    have hno:∀b cap,r=some (b,cap)→f<cap→¬Owned (γ.part ids tks) ⟨bx,tk⟩ b:=by
     intro b cap hr hlt
     subst hr
     obtain⟨_,_,_,_,_,_,_,hnb⟩:=q2.2 hlt
     rintro (h |⟨j,h⟩)
     ·exact hnb (part_mem hbx I h.mem)
     ·obtain⟨t',h3,h4⟩:=part_free htk I h
      have:=I.free t t' b ⟨row,f,cap,a2,a3,q1,hlt⟩ h4
      subst this
      exact a1 (List.mem_of_getElem? h3)
    have hlt':∀b cap,r=some (b,cap)→f<cap→b<w.heap.size:=fun b cap hr hlt=>I.lt_of_free ⟨row,f,cap,a2,a3,hr▸q1,hlt⟩
    refine⟨r,q1,q2.sim L.tys (fun b cap hr hlt=>(F.blk b (hlt' b cap hr hlt) (hno b cap hr hlt)).2) (fun b cap hr hlt o=>F.mem b o (hlt' b cap hr hlt) (hno b cap hr hlt)) (fun b cap hr hlt hnb hb'=>?_)⟩
    rcases hmb b hb' with h |h
    ·exact hnb h
    ·have:=hlt' b cap hr hlt
     omega
  ·intro t row f h1 h2
   rcases hRow t row f h1 h2 with⟨j,a1,a2,a3⟩ |⟨a1,a2,a3⟩
   ·exact J.rowmax j row f a2 a3
   ·exact I.rowmax t row f a2 a3
  ·intro t t' b h h'
   rcases hFree t b h with⟨j,h1,h2⟩ |⟨h1,h2⟩
   ·rcases hFree t' b h' with⟨j',h3,h4⟩ |⟨h3,h4⟩
    ·have:=J.free j j' b h2 h4
     subst this
     rw[h1] at h3;cases h3;rfl
    ·rcases hFl j b h2 with⟨t2,h5,h6⟩ |h5
     ·have:=I.free t2 t' b h6 h4
      subst this
      exact(h3 (List.mem_of_getElem? h5)).elim
     ·have:=I.lt_of_free h4;omega
   ·rcases hFree t' b h' with⟨j',h3,h4⟩ |⟨h3,h4⟩
    ·rcases hFl j' b h4 with⟨t2,h5,h6⟩ |h5
     ·have:=I.free t t2 b h2 h6
      subst this
      exact(h1 (List.mem_of_getElem? h5)).elim
     ·have:=I.lt_of_free h2;omega
    ·exact I.free t t' b h2 h4
end
end Go.Vs
namespace Go.Vs
variable {P : Program} {W : World} {G : Nat → Option (List PD)} {γ : Gh} {H : Hp} {w : World} {env : Env} {a : Act} {o : Oper}
structure InvS (W:World) (G:Nat→Option (List PD)) (γ:Gh) (H:Hp) (w:World):Prop extends Inv G γ H w where
 bse:γ.base=W.heap.size
 blw:RowKit.Below W.heap.size W w
 own:∀b,Owned γ H b→W.heap.size≤b
theorem InvS.up{γ':Gh}{H':Hp}{w':World}(I:InvS W G γ H w)(L:γ.le γ')(F:Frame γ H w γ' H' w')(J:Inv G γ' H' w'):InvS W G γ' H' w':=by
 have hb:=I.blw.size
 refine⟨J,L.base.trans I.bse,⟨F.os.trans I.blw.os,F.tape.trans I.blw.tape,F.output.trans I.blw.output,Nat.le_trans hb F.size,fun k hk=>?_⟩,fun b h=>?_⟩
 ·have hn:¬Owned γ H k:=fun h=>by have:=I.own k h;omega
  have hk2:k<W.heap.size:=hk
  exact((F.blk k (by omega) hn).1 (by rw[I.bse];exact hk2)).trans (I.blw.block k hk)
 ·rcases F.own b h with q |q
  ·exact I.own b q
  ·omega
def Ends'(γ:Gh)(r:Res)(e:Ending):Prop:=
 match r with
 | .val d=>∃v,e= .returned v∧RepD γ v d
 | .pan d=>∃v,e= .panicked [{v,recovered:=false}]∧RepD γ v d
def Enters(P:Program)(f:Nat):Prop:=∃fn,P.funcs[f]? =some fn∧(fn.name== "runtime.NumGoroutine")=false∧fn.body.isNone=false
def Meets(P:Program)(W:World)(G:Nat→Option (List PD))(f:Nat)(args:List D)(H:Hp)(r:Res)(H':Hp):Prop:=
 Enters P f∧∀γ w vs,InvS W G γ H w→RepL γ vs args→Calls P f vs w fun e w'=>∃γ',γ.le γ'∧Frame γ H w γ' H' w'∧InvS W G γ' H' w'∧Ends' γ' r e
def Sound(P:Program)(W:World)(G:Nat→Option (List PD))(c:CallR):Prop:=∀f args H r H',c f args H=some (r,H')→Meets P W G f args H r H'
theorem resRen{γ1 γ2:Gh}{bi ti:Nat→Option Nat}(R:Ren γ1 γ2 bi ti){r r':Res}(h:r.ren bi ti=some r'){e:Ending}(he:Ends' γ1 r e):Ends' γ2 r' e:=by
 cases r with
 |val d=>
  obtain⟨d',hd,rfl⟩:=Option.map_eq_some_iff.1 h
  obtain⟨v,rfl,hv⟩:=he
  exact⟨v,rfl,ren_rep R hv hd⟩
 |pan d=>
  obtain⟨d',hd,rfl⟩:=Option.map_eq_some_iff.1 h
  obtain⟨v,rfl,hv⟩:=he
  exact⟨v,rfl,ren_rep R hv hd⟩
theorem part_invS{ids tks:List Nat}{bx:List (List D)}{tk:List Nat}(hni:ids.Nodup)(hnt:tks.Nodup)(hbx:mapO (fun i=>match H.bx[i]? with |some cs=>D.renL (idx ids) (idx tks) cs |none=>none) ids=some bx)(htk:mapO (fun t=>H.tk[t]?) tks=some tk)(I:InvS W G γ H w):InvS W G (γ.part ids tks) ⟨bx,tk⟩ w:=by
 refine⟨part_inv hni hnt hbx htk I.toInv,I.bse,I.blw,fun b h=>I.own b ?_⟩
 rcases h with h |⟨j,h⟩
 ·obtain⟨i,_,c0,_,h1,h2,h3⟩:=part_lv' hbx I.toInv h
  exact .inl ⟨i,c0,h1,h2,h3⟩
 ·obtain⟨t,_,h⟩:=part_free htk I.toInv h
  exact .inr ⟨t,h⟩
theorem callD_gen{C:Array Value→World→(Ending→World→Prop)→Prop}(Cm:∀vs w (R R':Ending→World→Prop),C vs w R→(∀e w',R e w'→R' e w')→C vs w R'){c:CallR}{f:Nat}
    (S:∀args H r H',c f args H=some (r,H')→∀γ w vs,InvS W G γ H w→RepL γ vs args→C vs w fun e w'=>∃γ',γ.le γ'∧Frame γ H w γ' H' w'∧InvS W G γ' H' w'∧Ends' γ' r e)
    {args:List D} {H:Hp} {r:Res} {H':Hp} (h:callD c f args H=some (r,H')):∀γ w vs,InvS W G γ H w→RepL γ vs args→C vs w fun e w'=>∃γ',γ.le γ'∧Frame γ H w γ' H' w'∧InvS W G γ' H' w'∧Ends' γ' r e:=by
 unfold callD at h
 dsimp only at h
 generalize hids:reach H H.bx.length (ins [] (D.refsL args))=ids at h
 generalize htks:ins [] (D.toksL args++boxToks H ids)=tks at h
 split at h
 ·rename_i hn
  have hni:=nodupB_iff (Bool.and_eq_true_iff.1 hn).1
  have hnt:=nodupB_iff (Bool.and_eq_true_iff.1 hn).2
  split at h
  ·rename_i as bx tk h1 h2 h3
   split at h
   ·rename_i rl Hl hc
    intro γ w vs I r0
    refine Cm _ _ _ _ (S as ⟨bx,tk⟩ rl Hl hc (γ.part ids tks) w vs (part_invS hni hnt h2 h3 I) (renL_rep part_ren r0 h1)) ?_
    rintro e w' ⟨γl,L,F,J,E⟩
    unfold back at h
    split at h
    ·rename_i bxc tkc hb1 hb2
     obtain⟨m1,rfl⟩:=firstN_some hb1
     obtain⟨m2,rfl⟩:=firstN_some hb2
     dsimp only at h
     split at h
     ·rename_i r' bx' q1 q2
      cases h
      obtain⟨R,w1,w2,w3⟩:=whole_ok hni hnt h2 h3 I.toInv L F J.toInv false (bi:=fun i=>ids[i]?) m1 m2 (fun i j hij=>.inl ⟨(List.getElem?_eq_some_iff.1 hij).1,hij⟩) q2 (nw:=[]) rfl
      simp only[List.append_nil] at w2 w3
      exact⟨_,w1,w2,I.up w1 w2 w3,resRen R q1 E⟩
     ·split at h
      ·rename_i r' bx' n0 nw q1 q2 q3
       cases h
       obtain⟨R,w1,w2,w3⟩:=whole_ok hni hnt h2 h3 I.toInv L F J.toInv true (bi:=fun i=>if i<ids.length then ids[i]? else some (H.bx.length+(i-ids.length))) m1 m2 (fun i j hij=>by
        split at hij
        ·rename_i hlt;exact .inl ⟨hlt,hij⟩
        ·rename_i hge;cases hij;exact .inr ⟨rfl,by omega,rfl⟩) q2 (nw:=n0::nw) q3
       exact⟨_,w1,w2,I.up w1 w2 w3,resRen R q1 E⟩
      ·cases h
    ·cases h
   ·cases h
  ·cases h
 ·cases h
theorem callD_enters{c:CallR}(S:Sound P W G c){f:Nat}{args:List D}{H:Hp}{r:Res}{H':Hp}(h:callD c f args H=some (r,H')):Enters P f:=by
 unfold callD at h
 dsimp only at h
 split at h
 ·split at h
  ·split at h
   ·rename_i hc
    exact(S f _ _ _ _ hc).1
   ·cases h
  ·cases h
 ·cases h
theorem callD_sound{c:CallR}(S:Sound P W G c){f:Nat}{args:List D}{H:Hp}{r:Res}{H':Hp}(h:callD c f args H=some (r,H')):Meets P W G f args H r H':=
 ⟨callD_enters S h,callD_gen (C:=fun vs w R=>Calls P f vs w R) (fun _ _ _ _ h q=>h.mono q) (fun as H r H' hc=>(S f as H r H' hc).2) h⟩
theorem run_enter{f:Nat}(h:Enters P f)(args:Array Value)(w:World):(callFunc f args).run P w= .ok (.enter f args) w:=by
 obtain⟨fn,h1,h2,h3⟩:=h
 unfold callFunc
 simp only[Sem.run_bind,run_program,Result.andThen_ok,h1,h2,h3,Bool.false_eq_true,if_false,Sem.run_pure]
theorem RepL.append{γ:Gh}{a b:Array Value}{x y:List D}(h:RepL γ a x)(k:RepL γ b y):RepL γ (a++b) (x++y):=by
 refine⟨by simp[h.1,k.1],fun i d hd=>?_⟩
 have h1:=h.1
 by_cases hi:i<x.length
 ·rw[List.getElem?_append_left hi] at hd
  have:=h.2 i d hd
  have e:(a++b).getD i undef=a.getD i undef:=by simp[Array.getD_eq_getD_getElem?,Array.getElem?_append,h1,hi]
  rw[e];exact this
 ·rw[List.getElem?_append_right (by omega)] at hd
  have:=k.2 _ d hd
  have e:(a++b).getD i undef=b.getD (i-x.length) undef:=by
   simp only[Array.getD_eq_getD_getElem?]
   rw[Array.getElem?_append_right (by omega),h1]
  rw[e];exact this
theorem call_wp{c:CallR}(S:Sound P W G c)(I:InvS W G γ H w)(E:EnvRep γ env a.tmps){f:Operand}{args:Array Operand}{ts:Array TypeId}(ho:o.op= .call {callee:=.value f,args,argTypes:=ts}){f':Opd}{args':List Opd}(hf:opdOf f=some f')
    (ha:mapO opdOf args.toList=some args') {r:Res} {H':Hp} (he:callV c (f'.ev env) (args'.map (·.ev env)) H=some (r,H')) {K:Act→World→Prop} {Q:Exit→Act→World→Prop}
    (hK:∀v γ' w' d,r= .val d→γ.le γ'→Frame γ H w γ' H' w'→InvS W G γ' H' w'→RepD γ' v d→K (a.put o.dst v) w')
    (hQ:∀v γ' w' d,r= .pan d→γ.le γ'→Frame γ H w γ' H' w'→InvS W G γ' H' w'→RepD γ' v d→Q (.panic [{v,recovered:=false}]) a w'):o.wp P a w K Q:=by
 have hfr:=opdOf_rep E hf
 have har:=opds_rep E ha
 unfold callV at he
 split at he
 ·rename_i g first cap hg
  rw[hg] at hfr
  obtain⟨as,cs,hv,r1,r2⟩:=hfr.fn_inv
  obtain⟨hent,hm⟩:=callD_sound S he
  have hargs:RepL γ (as++args.map a.eval++cs) (first++args'.map (·.ev env)++cap):=(r1.append har).append r2
  have hrun:(execOp a.eval o).run P w= .ok (.enter g (as++args.map a.eval++cs)) w:=by
   simp[execOp,ho,resolve,hv,Deferred.ofValue,invoke,run_enter hent]
  unfold Oper.wp
  rw[hrun,Oper.upon_enter]
  refine(hm γ w _ I hargs).mono ?_
  rintro e w' ⟨γ',L,F,J,En⟩
  cases r with
  |val d=>
   obtain⟨v,rfl,hv'⟩:=En
   exact hK v γ' w' d rfl L F J hv'
  |pan d=>
   obtain⟨v,rfl,hv'⟩:=En
   exact hQ v γ' w' d rfl L F J hv'
 ·cases he
structure OpOf (P:Program) (ops:Array Oper) (nt:Nat) (o:Oper) (so:SO):Prop where
 k:∃hint,kHint P o hint=so.k
 dst:so.dst=o.dst
 lt:∀t,o.dst=some t→t<nt
 g:so.g=match o.guard with
  |none=>none
  |some (j,want)=>match(ops[j]?).bind (·.dst) with
   |some t=>some (t,want)
   |none=>none
 gd:∀j want,o.guard=some (j,want)→((ops[j]?).bind (·.dst)).isSome=true
theorem callK_some{op:Op}{r:Option SK}(h:callK op=some r):(∃f0 as0 ts,op= .call {callee:=.value f0,args:=as0,argTypes:=ts}∧
    r=(match opdOf f0,mapO opdOf as0.toList with |some g,some xs=>some (.call g xs) |_,_=>none))∨∃x,op= .panic x∧r=(opdOf x).map .panic:=by
 cases op with
 |call c=>
  obtain⟨callee,as,ts⟩:=c
  cases callee with
  |value g=>
   refine .inl ⟨g,as,ts,rfl,?_⟩
   simp only[callK] at h
   split at h<;>cases h<;>simp_all
  |_=>cases h
 |panic x=>
  simp only[callK,Option.some.injEq] at h
  exact .inr ⟨x,rfl,h.symm⟩
 |_=>cases h
theorem evKC_plain{c:CallR}{k:SK}(hk:k.isCall=false):evKC c G env H k=match evK G env H k with |some (d,H')=>some (.val d,H') |none=>none:=by
 cases k<;>first |rfl |cases hk
theorem kHint_call{h:Option SK}{k:SK}(hc:k.isCall=true)(hk:kHint P o h=k):kOp P o.op=k:=by
 unfold kHint at hk
 split at hk
 ·unfold kRaw at hk
  split at hk
  ·split at hk
   ·subst hk;cases hc
   ·exact hk
  ·split at hk
   ·subst hk;cases hc
   ·exact hk
  ·split at hk
   ·subst hk;cases hc
   ·exact hk
  ·split at hk
   ·split at hk
    ·split at hk
     ·split at hk
      ·subst hk;cases hc
      ·exact hk
     ·exact hk
    ·exact hk
   ·exact hk
  ·split at hk
   ·subst hk;cases hc
   ·exact hk
  ·split at hk
   ·subst hk;cases hc
   ·exact hk
  ·exact hk
 ·subst hk;cases hc
theorem panic_wp(I:InvS W G γ H w)(E:EnvRep γ env a.tmps){x:Operand}(ho:o.op= .panic x){y:Opd}(hy:opdOf x=some y){r:Res}{H':Hp}(he:panicD (y.ev env) H=some (r,H')){K:Act→World→Prop}{Q:Exit→Act→World→Prop}
    (hQ:∀v γ' w' d,r= .pan d→γ.le γ'→Frame γ H w γ' H' w'→InvS W G γ' H' w'→RepD γ' v d→Q (.panic [{v,recovered:=false}]) a w'):o.wp P a w K Q:=by
 have hr:=opdOf_rep E hy
 have key:∃t v,a.eval x= .iface t v∧r= .pan (y.ev env)∧H'=H:=by
  unfold panicD at he
  split at he
  ·rename_i t y' hd
   rw[hd] at hr
   have:=hr.p_inv
   generalize a.eval x=v at this
   cases this with
   |iface t v z hz=>cases he;exact⟨t,v,rfl,by rw[hd],rfl⟩
  ·rename_i t y' hd
   rw[hd] at hr
   generalize a.eval x=v at hr
   cases hr with
   |ifc t v d hd'=>cases he;exact⟨t,v,rfl,by rw[hd],rfl⟩
  ·cases he
 obtain⟨t,v,hv,rfl,rfl⟩:=key
 have hx:(execOp a.eval o).run P w= .halt (.panic (.iface t v)) w:=by
  unfold execOp
  rw[ho]
  dsimp only
  rw[hv]
  rfl
 unfold Oper.wp
 rw[hx]
 exact hQ _ γ w _ rfl (.refl γ) (.refl γ H' w) I (by rw[←hv];exact hr)
theorem op_wp{c:CallR}(S:Sound P W G c)(I:InvS W G γ H w)(E:EnvRep γ env a.tmps){k:SK}(hk:∃hint,kHint P o hint=k){r:Res}{H':Hp}(he:evKC c G env H k=some (r,H')){K:Act→World→Prop}{Q:Exit→Act→World→Prop}
    (hK:∀v γ' w' d,r= .val d→γ.le γ'→Frame γ H w γ' H' w'→InvS W G γ' H' w'→RepD γ' v d→K (a.put o.dst v) w')
    (hQ:∀v γ' w' d,r= .pan d→γ.le γ'→Frame γ H w γ' H' w'→InvS W G γ' H' w'→RepD γ' v d→Q (.panic [{v,recovered:=false}]) a w'):o.wp P a w K Q:=by
 obtain⟨hint,hk⟩:=hk
 by_cases hc:k.isCall=true
 ·have hkop:=kHint_call hc hk
  unfold kOp at hkop
  split at hkop
  ·rename_i r0 hr0
   rcases callK_some hr0 with⟨f0,as0,ts,ho,hr⟩ |⟨x,ho,hr⟩
   ·subst hr
    split at hkop
    ·rename_i g' xs' h1 h2
     simp only[Option.getD_some] at hkop
     subst hkop
     exact call_wp S I E ho h1 h2 he hK hQ
    ·simp only[Option.getD_none] at hkop
     subst hkop
     cases hc
   ·subst hr
    cases hx:opdOf x with
    |none=>
     rw[hx] at hkop
     simp only[Option.map_none,Option.getD_none] at hkop
     subst hkop
     cases hc
    |some y=>
     rw[hx] at hkop
     simp only[Option.map_some,Option.getD_some] at hkop
     subst hkop
     exact panic_wp I E ho hx he hQ
  ·split at hkop
   ·rename_i k' hk'
    split at hkop
    ·subst hkop;cases hc
    ·rename_i hcc
     subst hkop
     exact absurd hc hcc
   ·subst hkop;cases hc
 ·have hc:k.isCall=false:=by simpa using hc
  rw[evKC_plain hc] at he
  split at he
  ·rename_i d H1 hd
   cases he
   obtain⟨v,w',γ',hrun,L,F,J0,V⟩:=op_done I.toInv E hk hc hd
   have J:=I.up L F J0
   have hk2:=hK v γ' w' d rfl L F J V
   unfold Oper.wp
   rcases hrun with h |⟨h,rfl⟩
   ·rw[h];exact hk2
   ·rw[h];exact hk2
  ·cases he
theorem EnvRep.put'{γ:Gh}{env:Env}{nt:Nat}(E:EnvRep γ env a.tmps)(hn:a.tmps.size=nt){dst:Option Nat}(hd:∀t,dst=some t→t<nt){v:Value}{d:D}(h:RepD γ v d):
    EnvRep γ (Go.Vs.put dst d env) (a.put dst v).tmps∧(a.put dst v).tmps.size=nt∧(a.put dst v).defers=a.defers:=by
 cases dst with
 |none=>exact⟨E,hn,rfl⟩
 |some t=>exact⟨E.put (by rw[hn];exact hd t rfl) h,by simp[Act.put,hn],rfl⟩
theorem guard_ok{ops:Array Oper}{nt:Nat}{so:SO}(h:OpOf P ops nt o so)(E:EnvRep γ env a.tmps)(hn:a.tmps.size=nt)(hlt:∀(j:Nat) o' t,ops[j]? =some o'→o'.dst=some t→t<nt){b:Bool}(hg:evGuard env so.g=some b):
    Region.wanted o (yielded ops a.tmps)=b:=by
 have h1:=h.g
 have h2:=h.gd
 cases hgd:o.guard with
 |none=>
  rw[hgd] at h1
  rw[h1] at hg
  simp only[evGuard] at hg
  cases hg
  simp[Region.wanted,hgd]
 |some jw=>
  obtain⟨j,want⟩:=jw
  rw[hgd] at h1
  obtain⟨t,ht⟩:=Option.isSome_iff_exists.1 (h2 j want hgd)
  simp only[ht] at h1
  rw[h1] at hg
  simp only[evGuard] at hg
  have hr:=E t
  have htl:t<a.tmps.size:=by
   rw[hn]
   obtain⟨o',ho',hd⟩:=Option.bind_eq_some_iff.1 ht
   exact hlt j o' t ho' hd
  have hval:a.tmps[t]? =some (a.tmps.getD t undef):=by simp[Array.getD_eq_getD_getElem?,htl]
  simp only[Region.wanted,hgd,yielded,ht,Option.bind_some,hval]
  split at hg
  ·rename_i bb hb
   rw[hb] at hr
   rw[hr.p_inv.bool_inv]
   cases hg
   cases bb<;>cases want<;>rfl
  ·rename_i hb
   rw[hb] at hr
   generalize a.tmps.getD t undef=v at hr
   cases hr
   cases hg
   rfl
  ·cases hg
theorem ops_wpR{c:CallR}(S:Sound P W G c){ops:Array Oper}{nt:Nat}(hlt:∀(j:Nat) o' t,ops[j]? =some o'→o'.dst=some t→t<nt){Q:Exit→Act→World→Prop}(l2:List Oper):
    ∀(l:List Oper) (sl:List SO) (γ:Gh) (env:Env) (H:Hp) (a:Act) (w:World),l.length=sl.length→(∀(i:Nat) o so,l[i]? =some o→sl[i]? =some so→OpOf P ops nt o so)→
     InvS W G γ H w→EnvRep γ env a.tmps→a.tmps.size=nt→∀r,evOps c G sl env H=some r→
     (∀γ' env' H' a' w',r= .ok env' H'→γ.le γ'→Frame γ H w γ' H' w'→InvS W G γ' H' w'→EnvRep γ' env' a'.tmps→a'.tmps.size=nt→a'.defers=a.defers→wpList P ops Q l2 a' w')→
     (∀γ' d env' H' v a' w',r= .pan d env' H'→γ.le γ'→Frame γ H w γ' H' w'→InvS W G γ' H' w'→RepD γ' v d→EnvRep γ' env' a'.tmps→a'.tmps.size=nt→a'.defers=a.defers→Q (.panic [{v,recovered:=false}]) a' w')→
     wpList P ops Q (l++l2) a w
 |[],sl,γ,env,H,a,w,hl,_,I,E,hn,r,he,hok,_=>by
  cases sl with
  |cons=>simp at hl
  |nil=>
   simp only[evOps] at he
   cases he
   exact hok γ env H a w rfl (.refl γ) (.refl γ H w) I E hn rfl
 |o::l,sl,γ,env,H,a,w,hl,hof,I,E,hn,r,he,hok,hpan=>by
  cases sl with
  |nil=>simp at hl
  |cons so sl=>
   have ho:=hof 0 o so rfl rfl
   have hrest:∀(i:Nat) o so',l[i]? =some o→sl[i]? =some so'→OpOf P ops nt o so':=fun i o so' h1 h2=>hof (i+1) o so' (by simpa using h1) (by simpa using h2)
   have hll:l.length=sl.length:=by simpa using hl
   simp only[evOps] at he
   split at he
   ·rename_i hg
    have hw:=guard_ok ho E hn hlt hg
    refine wpList_step fun K hK=>?_
    rw[if_pos hw]
    split at he
    ·rename_i d H1 hd
     refine op_wp S I E ho.k hd (fun v γ' w' d' hr L F J V=>?_) (fun v γ' w' d' hr _ _ _ _=>by cases hr)
     cases hr
     obtain⟨p1,p2,p3⟩:=(E.mono L).put' hn (dst:=o.dst) ho.lt V
     rw[ho.dst] at he
     refine hK _ _ (ops_wpR S hlt l2 l sl γ' _ _ _ w' hll hrest J p1 p2 r he (fun γ2 env' H' a' w2 h1 h2 h3 h4 h5 h6 h7=>hok γ2 env' H' a' w2 h1 (L.trans h2) (F.trans L.base h3) h4 h5 h6 (h7.trans p3)) (fun γ2 d2 e2 H' v2 a' w2 h1 h2 h3 h4 h5 h6 h7 h8=>hpan γ2 d2 e2 H' v2 a' w2 h1 (L.trans h2) (F.trans L.base h3) h4 h5 h6 h7 (h8.trans p3)))
    ·rename_i d H1 hd
     cases he
     exact op_wp S I E ho.k hd (fun v γ' w' d' hr _ _ _ _=>by cases hr) (fun v γ' w' d' hr L F J V=>by cases hr;exact hpan γ' d env H1 v a w' rfl L F J V (E.mono L) hn rfl)
    ·cases he
   ·rename_i hg
    have hw:=guard_ok ho E hn hlt hg
    refine wpList_step fun K hK=>?_
    rw[if_neg (by simp[hw])]
    obtain⟨p1,p2,p3⟩:=E.put' hn (dst:=o.dst) ho.lt (v:=undef) RepD.undef
    rw[ho.dst] at he
    exact hK _ _ (ops_wpR S hlt l2 l sl γ _ _ _ w hll hrest I p1 p2 r he (fun γ2 env' H' a' w2 h1 h2 h3 h4 h5 h6 h7=>hok γ2 env' H' a' w2 h1 h2 h3 h4 h5 h6 (h7.trans p3)) (fun γ2 d2 e2 H' v2 a' w2 h1 h2 h3 h4 h5 h6 h7 h8=>hpan γ2 d2 e2 H' v2 a' w2 h1 h2 h3 h4 h5 h6 h7 (h8.trans p3)))
   ·cases he
theorem ops_wp{c:CallR}(S:Sound P W G c){ops:Array Oper}{nt:Nat}(hlt:∀(j:Nat) o' t,ops[j]? =some o'→o'.dst=some t→t<nt){Q:Exit→Act→World→Prop}(l:List Oper)(sl:List SO)(γ:Gh)(env:Env)(H:Hp)(a:Act)(w:World)(hl:l.length=sl.length)
    (hof:∀(i:Nat) o so,l[i]? =some o→sl[i]? =some so→OpOf P ops nt o so) (I:InvS W G γ H w) (E:EnvRep γ env a.tmps) (hn:a.tmps.size=nt) (r:RO) (he:evOps c G sl env H=some r)
    (hok:∀γ' env' H' a' w',r= .ok env' H'→γ.le γ'→Frame γ H w γ' H' w'→InvS W G γ' H' w'→EnvRep γ' env' a'.tmps→a'.tmps.size=nt→a'.defers=a.defers→Q .normal a' w')
    (hpan:∀γ' d env' H' v a' w',r= .pan d env' H'→γ.le γ'→Frame γ H w γ' H' w'→InvS W G γ' H' w'→RepD γ' v d→EnvRep γ' env' a'.tmps→a'.tmps.size=nt→a'.defers=a.defers→Q (.panic [{v,recovered:=false}]) a' w'):
    wpList P ops Q l a w:=by
 have:=ops_wpR S hlt (Q:=Q) [] l sl γ env H a w hl hof I E hn r he (fun γ' env' H' a' w' h1 h2 h3 h4 h5 h6 h7=>wpList_nil (hok γ' env' H' a' w' h1 h2 h3 h4 h5 h6 h7)) hpan
 rwa [List.append_nil] at this
variable {P : Program} {W : World} {G : Nat → Option (List PD)}
theorem Opd.ev_congr{e e':Env}{x:Opd}(h:∀t∈x.slots,e.get t=e'.get t):x.ev e=x.ev e':=by
 cases x with
 |t i=>exact h i (by simp[Opd.slots])
 |c d=>rfl
theorem evs_congr{e e':Env}{xs:List Opd}(h:∀t∈xs.flatMap Opd.slots,e.get t=e'.get t):xs.map (·.ev e)=xs.map (·.ev e'):=
 List.map_congr_left fun x hx=>Opd.ev_congr fun t ht=>h t (List.mem_flatMap.2 ⟨x,hx,ht⟩)
theorem evK_congr{e e':Env}{H:Hp}{k:SK}(h:∀t∈k.slots,e.get t=e'.get t):evK G e H k=evK G e' H k:=by
 have two:∀x y:Opd,(∀t∈x.slots++y.slots,e.get t=e'.get t)→x.ev e=x.ev e'∧y.ev e=y.ev e':=fun x y h=>
  ⟨Opd.ev_congr fun t ht=>h t (by simp[ht]),Opd.ev_congr fun t ht=>h t (by simp[ht])⟩
 cases k<;>simp only[SK.slots] at h<;>simp only[evK]
 case move=>rw[Opd.ev_congr h]
 case box=>rw[Opd.ev_congr h]
 case load=>rw[Opd.ev_congr h]
 case nilCheck=>rw[Opd.ev_congr h]
 case un=>rw[Opd.ev_congr h]
 case faddr=>rw[Opd.ev_congr h]
 case field=>rw[Opd.ev_congr h]
 case extract=>rw[Opd.ev_congr h]
 case len=>rw[Opd.ev_congr h]
 case conv=>rw[Opd.ev_congr h]
 case strid=>rw[Opd.ev_congr h]
 case toBytes=>rw[Opd.ev_congr h]
 case toBytesG=>rw[Opd.ev_congr h]
 case toStr=>rw[Opd.ev_congr h]
 case iface=>rw[Opd.ev_congr h]
 case sdata=>rw[Opd.ev_congr h]
 case boxB=>rw[Opd.ev_congr h]
 case cap=>rw[Opd.ev_congr h]
 case tassert=>rw[Opd.ev_congr h]
 case makesl=>obtain⟨h1,h2⟩:=two _ _ h;rw[h1,h2]
 case appendm=>obtain⟨h1,h2⟩:=two _ _ h;rw[h1,h2]
 case appendg=>obtain⟨h1,h2⟩:=two _ _ h;rw[h1,h2]
 case ustr=>obtain⟨h1,h2⟩:=two _ _ h;rw[h1,h2]
 case copy=>obtain⟨h1,h2⟩:=two _ _ h;rw[h1,h2]
 case store=>obtain⟨h1,h2⟩:=two _ _ h;rw[h1,h2]
 case bin=>obtain⟨h1,h2⟩:=two _ _ h;rw[h1,h2]
 case eqk=>obtain⟨h1,h2⟩:=two _ _ h;rw[h1,h2]
 case eqs=>obtain⟨h1,h2⟩:=two _ _ h;rw[h1,h2]
 case iaddr=>obtain⟨h1,h2⟩:=two _ _ h;rw[h1,h2]
 case index=>obtain⟨h1,h2⟩:=two _ _ h;rw[h1,h2]
 case append=>obtain⟨h1,h2⟩:=two _ _ h;rw[h1,h2]
 case minmax=>obtain⟨h1,h2⟩:=two _ _ h;rw[h1,h2]
 case mapget=>obtain⟨h1,h2⟩:=two _ _ h;rw[h1,h2]
 case mapins kd c a b=>
  have h1:=Opd.ev_congr (x:=c) fun t ht=>h t (by simp[ht])
  have h2:=Opd.ev_congr (x:=a) fun t ht=>h t (by simp[ht])
  have h3:=Opd.ev_congr (x:=b) fun t ht=>h t (by simp[ht])
  rw[h1,h2,h3]
 case mapset kd c a b=>
  have h1:=Opd.ev_congr (x:=c) fun t ht=>h t (by simp[ht])
  have h2:=Opd.ev_congr (x:=a) fun t ht=>h t (by simp[ht])
  have h3:=Opd.ev_congr (x:=b) fun t ht=>h t (by simp[ht])
  rw[h1,h2,h3]
 case pick c a b=>
  have h1:=Opd.ev_congr (x:=c) fun t ht=>h t (by simp[ht])
  have h2:=Opd.ev_congr (x:=a) fun t ht=>h t (by simp[ht])
  have h3:=Opd.ev_congr (x:=b) fun t ht=>h t (by simp[ht])
  rw[h1,h2,h3]
 case build zs ps=>
  have :(ps.map fun(x:Nat×Nat×Opd)=>(x.1,x.2.1,x.2.2.ev e))=ps.map fun x=>(x.1,x.2.1,x.2.2.ev e'):=
   List.map_congr_left fun x hx=>by rw[Opd.ev_congr fun t ht=>h t (List.mem_flatMap.2 ⟨x,hx,ht⟩)]
  rw[this]
 case bsliceG e0 sz len z ps=>
  have :(ps.map fun(x:Nat×Nat×Opd)=>(x.1,x.2.1,x.2.2.ev e))=ps.map fun x=>(x.1,x.2.1,x.2.2.ev e'):=
   List.map_congr_left fun x hx=>by rw[Opd.ev_congr fun t ht=>h t (List.mem_flatMap.2 ⟨x,hx,ht⟩)]
  rw[this]
 case slice3 sz x lo hi mx=>
  have h1:=Opd.ev_congr (x:=x) fun t ht=>h t (by simp[ht])
  have h2:lo.map (·.ev e)=lo.map (·.ev e'):=by
   cases lo with
   |none=>rfl
   |some y=>simp only[Option.map_some];rw[Opd.ev_congr (x:=y) fun t ht=>h t (by simp[optSlots,ht])]
  have h3:=Opd.ev_congr (x:=hi) fun t ht=>h t (by simp[ht])
  have h4:=Opd.ev_congr (x:=mx) fun t ht=>h t (by simp[ht])
  rw[h1,h2,h3,h4]
 case bslice e0 sz len z ps=>
  have :(ps.map fun(x:Nat×Opd)=>(x.1,x.2.ev e))=ps.map fun x=>(x.1,x.2.ev e'):=
   List.map_congr_left fun x hx=>by rw[Opd.ev_congr fun t ht=>h t (List.mem_flatMap.2 ⟨x,hx,ht⟩)]
  rw[this]
 case mkfn f first cap=>
  rw[evs_congr (xs:=first) fun t ht=>h t (List.mem_append_left _ ht),evs_congr (xs:=cap) fun t ht=>h t (List.mem_append_right _ ht)]
 case slice sz x lo hi=>
  have h1:=Opd.ev_congr (x:=x) fun t ht=>h t (by simp[ht])
  have h2:lo.map (·.ev e)=lo.map (·.ev e'):=by
   cases lo with
   |none=>rfl
   |some y=>simp only[Option.map_some];rw[Opd.ev_congr (x:=y) fun t ht=>h t (by simp[optSlots,ht])]
  have h3:hi.map (·.ev e)=hi.map (·.ev e'):=by
   cases hi with
   |none=>rfl
   |some y=>simp only[Option.map_some];rw[Opd.ev_congr (x:=y) fun t ht=>h t (by simp[optSlots,ht])]
  rw[h1,h2,h3]
 case slarr n sz x lo hi=>
  have h1:=Opd.ev_congr (x:=x) fun t ht=>h t (by simp[ht])
  have h2:lo.map (·.ev e)=lo.map (·.ev e'):=by
   cases lo with
   |none=>rfl
   |some y=>simp only[Option.map_some];rw[Opd.ev_congr (x:=y) fun t ht=>h t (by simp[optSlots,ht])]
  have h3:hi.map (·.ev e)=hi.map (·.ev e'):=by
   cases hi with
   |none=>rfl
   |some y=>simp only[Option.map_some];rw[Opd.ev_congr (x:=y) fun t ht=>h t (by simp[optSlots,ht])]
  rw[h1,h2,h3]
theorem evKC_congr{c:CallR}{e e':Env}{H:Hp}{k:SK}(h:∀t∈k.slots,e.get t=e'.get t):evKC c G e H k=evKC c G e' H k:=by
 by_cases hp:∃x,k= .panic x
 ·obtain⟨x,rfl⟩:=hp
  simp only[evKC]
  rw[Opd.ev_congr (x:=x) fun t ht=>h t ht]
 by_cases hk:k.isCall=true
 ·cases k<;>first |(cases hk;done) |(exact absurd ⟨_,rfl⟩ hp) |skip
  rename_i f as
  simp only[SK.slots] at h
  simp only[evKC]
  rw[Opd.ev_congr (x:=f) fun t ht=>h t (List.mem_append_left _ ht),evs_congr (xs:=as) fun t ht=>h t (List.mem_append_right _ ht)]
 ·rw[evKC_plain (by simpa using hk),evKC_plain (by simpa using hk),evK_congr h]
theorem evK_heapless{e:Env}{k:SK}(h:k.heapless=true)(H:Hp):evK G e H k=(evK G e ⟨[],[]⟩ k).map fun x=>(x.1,H):=by
 cases k<;>first |(cases h;done) |skip
 all_goals
  simp only[evK]
  first
   |rfl
   |(simp only[Option.map_map];rfl)
   |(split<;>first |rfl |(simp only[Option.map_map];rfl) |(split<;>first |rfl |(simp only[Option.map_map];rfl)))
theorem evKC_same{c:CallR}{e:Env}{H H':Hp}{k:SK}{d:D}(he:evKC c G e H k=some (.val d,H'))(hc:cls e k≤1)(hl:H'.bx.length=H.bx.length):
    H'=H∧(cls e k=0→∀H2,evKC c G e H2 k=some (.val d,H2)):=by
 by_cases hp:∃x,k= .panic x
 ·obtain⟨x,rfl⟩:=hp
  simp only[cls] at hc
  omega
 by_cases hk:k.isCall=true
 ·cases k<;>first |(cases hk;done) |(exact absurd ⟨_,rfl⟩ hp) |skip
  rename_i f as
  simp only[cls] at hc⊢
  split at hc
  ·rename_i href
   rw[if_pos href]
   simp only[Bool.and_eq_true,List.isEmpty_iff] at href
   simp only[evKC] at he⊢
   unfold callV at he⊢
   split at he
   ·rename_i g first cap hg
    have hr:D.refsL (first++List.map (fun x=>Opd.ev e x) as++cap)=[]:=by
     have:=href.1
     have app:∀x y:List D,D.refsL (x++y)=D.refsL x++D.refsL y:=by
      intro x y
      induction x with
      |nil=>simp[D.refsL]
      |cons d x ih=>simp[D.refsL,ih]
     rw[hg] at this
     simp only[D.refsL,D.refs,List.append_eq_nil_iff] at this
     rw[app,app,this.1.1,this.1.2,this.2]
     rfl
    have ht:D.toksL (first++List.map (fun x=>Opd.ev e x) as++cap)=[]:=by
     have:=href.2
     have app:∀x y:List D,D.toksL (x++y)=D.toksL x++D.toksL y:=by
      intro x y
      induction x with
      |nil=>simp[D.toksL]
      |cons d x ih=>simp[D.toksL,ih]
     rw[hg] at this
     simp only[D.toksL,D.toks,List.append_eq_nil_iff] at this
     rw[app,app,this.1.1,this.1.2,this.2]
     rfl
    have hreach:∀H0:Hp,∀n,reach H0 n []=[]:=by
     intro H0 n
     cases n<;>simp[reach,boxRefs]
    unfold callD at he⊢
    simp only[hr,ht,ins,hreach,boxToks,List.append_nil,nodupB,Bool.and_self,if_true,mapO] at he⊢
    split at he
    ·rename_i as' bx tk h1 h2 h3
     cases h2;cases h3
     split at he
     ·rename_i rl Hl hcall
      have key:∀H0:Hp,(Hl.bx.length=0∨True)→back [] [] H0 rl Hl=(match rl.ren (fun _=>none) (fun _=>none) with
          |some r'=>some (r',H0)
          |none=>match rl.ren (fun i=>some (H0.bx.length+i)) (fun _=>none),mapO (D.renL (fun i=>some (H0.bx.length+i)) fun _=>none) Hl.bx with
           |some r',some (n0::nw)=>some (r',⟨H0.bx++(n0::nw),H0.tk⟩)
           |_,_=>none):=by
       intro H0 _
       unfold back
       simp only[firstN,List.length_nil,Nat.zero_le,if_true,List.take_zero,List.getElem?_nil,mapO,putAll,Nat.not_lt_zero,if_false,Nat.sub_zero,List.drop_zero]
       cases rl.ren (fun _=>none) (fun _=>none) with
       |some r'=>rfl
       |none=>
        cases rl.ren (fun i=>some (H0.bx.length+i)) (fun _=>none)<;>cases mapO (D.renL (fun i=>some (H0.bx.length+i)) fun _=>none) Hl.bx<;>first |rfl |(rename_i l;cases l<;>rfl)
      rw[key H (.inr trivial)] at he
      cases hren:rl.ren (fun _=>none) (fun _=>none) with
      |some r'=>
       rw[hren] at he
       cases he
       refine⟨rfl,fun _ H2=>?_⟩
       rw[key H2 (.inr trivial),hren]
      |none=>
       rw[hren] at he
       dsimp only at he
       split at he
       ·cases he
        simp at hl
       ·cases he
     ·cases he
    ·cases he
   ·cases he
  ·omega
 ·have hk:k.isCall=false:=by simpa using hk
  rw[evKC_plain hk] at he
  have pl:∀H2,evKC c G e H2 k=match evK G e H2 k with |some (d,H')=>some (.val d,H') |none=>none:=fun H2=>evKC_plain hk
  split at he
  ·rename_i d0 H0 hd
   cases he
   by_cases hl':k.heapless=true
   ·have q:=evK_heapless (G:=G) (e:=e) hl' H
    rw[q] at hd
    obtain⟨x,hx,hh⟩:=Option.map_eq_some_iff.1 hd
    cases hh
    refine⟨rfl,fun _ H2=>?_⟩
    rw[pl,evK_heapless hl' H2,hx]
    rfl
   ·cases k<;>first |(exact absurd rfl hl') |(exfalso;simp only[cls] at hc;omega) |(exfalso;cases hk;done) |skip
    rotate_left
    ·rename_i x
     simp only[evK] at hd
     obtain⟨d',hd',hh⟩:=Option.map_eq_some_iff.1 hd
     cases hh
     exact⟨rfl,fun h0=>by simp[cls] at h0⟩
    ·rename_i e0 x n
     simp only[evK] at hd
     refine⟨?_,fun h0=>by simp[cls] at h0⟩
     unfold ustrD at hd
     split at hd
     ·split at hd
      ·split at hd<;>cases hd;rfl
      ·split at hd<;>cases hd;rfl
      ·split at hd
       ·obtain⟨d',hd',hh⟩:=Option.map_eq_some_iff.1 hd
        cases hh;rfl
       ·cases hd
      ·cases hd
     ·cases hd
    ·simp only[evK] at hd
     obtain⟨d',hd',hh⟩:=Option.map_eq_some_iff.1 hd
     cases hh
     exact⟨rfl,fun h0=>by simp[cls] at h0⟩
    ·rename_i x _
     simp only[evK] at hd
     split at hd
     ·rename_i xs hxs
      obtain⟨s,hs,hh⟩:=Option.map_eq_some_iff.1 hd
      cases hh
      refine⟨rfl,fun h0 H2=>?_⟩
      rw[pl]
      simp only[evK]
      simp only[cls] at h0
      have hq:∀Hq:Hp,srcBH Hq (x.ev e)=srcB (x.ev e):=by
       intro Hq
       unfold srcBH
       split
       ·rename_i hx;rw[hx] at h0;cases h0
       ·rename_i hx;rw[hx] at h0;cases h0
       ·rfl
      rw[hq] at hxs⊢
      simp only[hxs,hs,Option.map_some]
     ·cases hd
    ·rename_i n x
     simp only[cls] at hc⊢
     simp only[evK] at hd
     obtain⟨d',hd',hh⟩:=Option.map_eq_some_iff.1 hd
     cases hh
     refine⟨rfl,fun h0 H2=>?_⟩
     rw[pl]
     simp only[evK]
     unfold loadD at hd'⊢
     split at h0
     ·rename_i cs off hx
      rw[hx] at hd'⊢
      dsimp only at hd'⊢
      rw[hd'];rfl
     ·rename_i g off hx
      rw[hx] at hd'⊢
      dsimp only at hd'⊢
      rw[hd'];rfl
     ·omega
  ·cases he
end Go.Vs
namespace Go.Vs
variable {P : Program} {W : World} {G : Nat → Option (List PD)}
variable {γ γ' : Gh} {H H' : Hp} {w w' : World} {s0 blk : Nat} {zs : List PD}
def Priv(γ:Gh)(H:Hp)(s0:Nat)(zs:List PD)(blk:Nat)(w:World):Prop:=
 (∃vs T fr,w.heap[blk]? =some (.cells vs T fr)∧RepB γ vs (zs.map .p)∧clear fr 0 vs.size)∧(∀o,γ.mem blk o=none)∧¬Owned γ H blk∧blk∉γ.boxes∧s0≤blk
theorem Priv.keep(p:Priv γ H s0 zs blk w)(L:γ.le γ')(F:Frame γ H w γ' H' w'):Priv γ' H' s0 zs blk w':=by
 obtain⟨⟨vs,T,fr,h1,h2,h3⟩,h4,h5,h6,h7⟩:=p
 have hlt:blk<w.heap.size:=(Array.getElem?_eq_some_iff.1 h1).1
 have hm:∀o,γ'.mem blk o=none:=fun o=>(F.mem blk o hlt h5).trans (h4 o)
 refine⟨?_,hm,fun h=>?_,fun h=>?_,h7⟩
 ·rcases(F.blk blk hlt h5).2 with q |⟨cs,T',f1,f2,q1,q2,q3⟩
  ·exact⟨vs,T,fr,q.trans h1,h2.mono L,h3⟩
  ·rw[h1] at q1
   cases q1
   refine⟨vs,T,f2,q2,h2.mono L,fun k _ hk hc=>?_⟩
   rcases q3 k hk hc with q |q
   ·exact h3 k (Nat.zero_le _) hk q
   ·exact q (hm k)
 ·rcases F.own blk h with q |q
  ·exact h5 q
  ·omega
 ·rcases F.bxs blk h with q |q
  ·exact h6 q
  ·omega
theorem alloc_inv{o:Oper}{e:TypeId}(ho:o.op= .alloc e)(hk:∃hint,kHint P o hint= .alloc zs):∃z,zeroOf P e=some z∧zs=z.cells:=by
 obtain⟨hint,hk⟩:=hk
 have hp:kOp P o.op= .alloc zs:=by
  unfold kHint at hk
  split at hk
  ·unfold kRaw at hk
   split at hk<;>(try exact hk)<;>(rw[ho] at hk⊢)<;>(try (simp only at hk;exact hk))
   ·split at hk<;>first |exact hk |cases hk |contradiction
  ·cases hk
 rw[ho] at hp
 simp only[kOp,callK,kOf] at hp
 cases hz:zeroOf P e with
 |none=>rw[hz] at hp;simp at hp
 |some z=>
  rw[hz] at hp
  simp only[Option.map_some] at hp
  split at hp
  ·cases hp
  ·exact⟨z,rfl,by cases hp;rfl⟩
theorem alloc_priv(I:InvS W G γ H w){a:Act}{o:Oper}{e:TypeId}(ho:o.op= .alloc e)(hk:∃hint,kHint P o hint= .alloc zs)(hs:s0≤w.heap.size):
    ∃w',(execOp a.eval o).run P w= .ok (.value (.pointer (some ⟨w.heap.size,0,none⟩))) w'∧Frame γ H w γ H w'∧InvS W G γ H w'∧Priv γ H s0 zs w.heap.size w':=by
 obtain⟨z,hz,rfl⟩:=alloc_inv ho hk
 obtain⟨v,q1,q2⟩:=run_zeroOf hz w
 obtain⟨r1,r2⟩:=(ofV_rep γ.mem q2).cells
 obtain⟨F,J⟩:=I.allocObj (.cells v.cells e)
 refine⟨w.alloc (.cells v.cells e),by simp[execOp,ho,Instr.alloc,q1,newVar,newRow],F,I.up (.refl γ) F J,⟨v.cells,e,(0,0),by rw[heap_alloc,if_pos rfl],(repL_p r1 fun i d hd=>(r2 i d hd).1).toB,fun k _ _ h=>by omega⟩,fun o=>?_,fun h=>?_,fun h=>?_,hs⟩
 ·cases hm:γ.mem w.heap.size o with
  |none=>rfl
  |some v=>have:=I.lt_of_mem hm;omega
 ·rcases h with h |⟨t,row,f,cap,h⟩
  ·exact I.not_lv h
  ·have:=I.lt_of_free (t:=t) ⟨row,f,cap,h⟩
   omega
 ·have:=I.lt_of_box h
  omega
theorem Inv.addBox(I:Inv G γ H w){cs:List D}{vs:Array Value}{T:Nat}{fr:Nat×Nat}(hb:w.heap[blk]? =some (.cells vs T fr))(hr:RepB γ vs cs)(hcl:clear fr 0 vs.size)(h1:∀c∈cs,c.one=true)(hne:cs≠[])
    (hm:∀o,γ.mem blk o=none) (hno:¬Owned γ H blk) (hnb:blk∉γ.boxes):
    γ.le {γ with boxes:=γ.boxes++[blk]}∧Inv G {γ with boxes:=γ.boxes++[blk]} {H with bx:=H.bx++[cs]} w:=by
 have hle:γ.le {γ with boxes:=γ.boxes++[blk]}:=⟨rfl,fun c x h=>h,fun _ _ _ h=>h,fun i b h=>by
  have hi:i<γ.boxes.length:=(List.getElem?_eq_some_iff.1 h).1
  show(γ.boxes++[blk])[i]? =some b
  rw[List.getElem?_append_left hi];exact h,fun t r h=>⟨r,h,rfl,rfl,fun _ _ h=>h⟩⟩
 have hfree:∀t b,Free {γ with boxes:=γ.boxes++[blk]} {H with bx:=H.bx++[cs]} t b→Free γ H t b:=fun t b h=>Free.congr (fun _ _ h=>h) (fun _ _ h=>h) h
 have hnl:¬Lv γ H blk:=fun h=>hno (.inl h)
 refine⟨hle,?_⟩
 constructor
 ·exact I.size
 ·exact I.tys
 ·exact I.rowb
 ·exact I.mem
 ·exact I.globs
 ·show(γ.boxes++[blk]).length=(H.bx++[cs]).length
  simp[I.lenB]
 ·exact I.nodup_push hnl rfl rfl
 ·intro i b cs' hb' hc
  have hb':(γ.boxes++[blk])[i]? =some b:=hb'
  have hc:(H.bx++[cs])[i]? =some cs':=hc
  rcases push_split I.lenB hb' hc with⟨a1,a2⟩ |⟨_,rfl,rfl⟩
  ·obtain⟨vs',T',fr',b1,b2,b3⟩:=I.box i b cs' a1 a2
   exact⟨vs',T',fr',b1,b2.mono hle,b3⟩
  ·exact⟨vs,T,fr,by rw[viewC_of (isMapC_one h1)];exact hb,hr.mono hle,fun _=>h1,fun _=>hcl⟩
 ·intro b o hb'
  rcases Lv.push (γ':={γ with boxes:=γ.boxes++[blk]}) (H':={H with bx:=H.bx++[cs]}) I.lenB rfl rfl hb' with h |⟨h,_⟩
  ·exact I.boxmem b o h
  ·subst h;exact hm o
 ·intro i b h1 h2
  have h2:(H.bx++[cs])[i]? =some []:=h2
  have h1:(γ.boxes++[blk])[i]? =some b:=h1
  rcases push_split I.lenB h1 h2 with⟨a1,a2⟩ |⟨_,_,h⟩
  ·exact I.empt i b a1 a2
  ·exact absurd h.symm hne
 ·exact I.lenT
 ·intro t row f h1 h2
  obtain⟨r,a1,a2⟩:=I.row t row f h1 h2
  refine⟨r,a1,a2.keep (fun _ _ h=>h) (fun b cap hr hlt=>rfl) (fun b cap hr hlt o=>rfl) (fun b cap hr hlt hb hb'=>?_)⟩
  have hb':b∈γ.boxes++[blk]:=hb'
  rcases List.mem_append.1 hb' with h |h
  ·exact hb h
  ·have :b=blk:=by simpa using h
   subst this
   exact hno (.inr ⟨t,row,f,cap,h1,h2,hr▸a1,hlt⟩)
 ·exact I.rowmax
 ·intro t t' b h h'
  exact I.free t t' b (hfree t b h) (hfree t' b h')
theorem Priv.add{γ0:Gh}{H0:Hp}{w0:World}(p:Priv γ H w0.heap.size zs blk w)(I:InvS W G γ H w)(F:Frame γ0 H0 w0 γ H w)(hW:W.heap.size≤w0.heap.size)(h1:zs.all PD.one=true)(hne:zs≠[]):
    ∃γ',γ.le γ'∧Frame γ0 H0 w0 γ' {H with bx:=H.bx++[zs.map .p]} w∧InvS W G γ' {H with bx:=H.bx++[zs.map .p]} w∧RepD γ' (.pointer (some ⟨blk,0,none⟩)) (.box H.bx.length 0)∧
     ∀(s1:Nat) (zs1:List PD) (b1:Nat),b1≠blk→Priv γ H s1 zs1 b1 w→Priv γ' {H with bx:=H.bx++[zs.map .p]} s1 zs1 b1 w:=by
 obtain⟨⟨vs,T,fr,a1,a2,a3⟩,a4,a5,a6,a7⟩:=p
 obtain⟨hle,J⟩:=I.toInv.addBox (cs:=zs.map .p) a1 a2 a3 (fun c hc=>by
  obtain⟨x,hx,rfl⟩:=List.mem_map.1 hc
  exact List.all_eq_true.1 h1 x hx) (by simpa using hne) a4 a5 a6
 have hlv:∀b,Lv {γ with boxes:=γ.boxes++[blk]} {H with bx:=H.bx++[zs.map .p]} b→Lv γ H b∨b=blk:=fun b h=>by
  rcases Lv.push (γ':={γ with boxes:=γ.boxes++[blk]}) (H':={H with bx:=H.bx++[zs.map .p]}) I.lenB rfl rfl h with h |⟨h,_⟩
  ·exact .inl h
  ·exact .inr h
 have hfree:∀t b,Free {γ with boxes:=γ.boxes++[blk]} {H with bx:=H.bx++[zs.map .p]} t b→Free γ H t b:=fun t b h=>Free.congr (fun _ _ h=>h) (fun _ _ h=>h) h
 refine⟨{γ with boxes:=γ.boxes++[blk]},hle,⟨F.os,F.tape,F.output,F.size,F.blk,F.mem,fun b hb=>?_,fun t b hb=>F.fre t b (hfree t b hb),fun b hb=>?_⟩,⟨J,I.bse,I.blw,fun b hb=>?_⟩,.box _ _ _ ?_,fun s1 zs1 b1 hne1 p1=>?_⟩
 ·rcases hlv b hb with h |rfl
  ·exact F.box b h
  ·exact .inr a7
 ·rcases List.mem_append.1 (show b∈γ.boxes++[blk] from hb) with h |h
  ·exact F.bxs b h
  ·have :b=blk:=by simpa using h
   subst this
   exact .inr a7
 ·rcases hb with hb |⟨t,hb⟩
  ·rcases hlv b hb with h |rfl
   ·exact I.own b (.inl h)
   ·omega
  ·exact I.own b (.inr ⟨t,hfree t b hb⟩)
 ·show(γ.boxes++[blk])[H.bx.length]? =_
  rw[←I.lenB];simp
 ·obtain⟨⟨vs1,T1,fr1,q1,q2,q3⟩,q4,q5,q6,q7⟩:=p1
  refine⟨⟨vs1,T1,fr1,q1,q2.mono hle,q3⟩,q4,fun h=>?_,fun h=>?_,q7⟩
  ·rcases h with h |⟨t,h⟩
   ·rcases hlv b1 h with h |h
    ·exact q5 (.inl h)
    ·exact hne1 h
   ·exact q5 (.inr ⟨t,hfree t b1 h⟩)
  ·rcases List.mem_append.1 (show b1∈γ.boxes++[blk] from h) with h |h
   ·exact q6 h
   ·exact hne1 (by simpa using h)
theorem Priv.lt(p:Priv γ H s0 zs blk w):blk<w.heap.size:=by
 obtain⟨⟨vs,T,fr,h1,_⟩,_⟩:=p
 exact(Array.getElem?_eq_some_iff.1 h1).1
end Go.Vs
