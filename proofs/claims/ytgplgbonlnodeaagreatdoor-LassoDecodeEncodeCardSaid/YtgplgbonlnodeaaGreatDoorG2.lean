/-
  A value-level evaluator for Go functions; the functions of this cut by it; plain laws. Text G2.
-/
import Derived.Test.YtgplgbonlnodeaaGreatDoorG1
import Derived.Lib.UnsafeStr
import Derived.MapKept
import Derived.Below
import Derived.Orders
open Array renaming eq_empty_of_size_eq_zero→Pz,ext→PA,ext'→FT,getD_eq_getD_getElem?→bN,getElem?_append→Ah,getElem?_append_right→YC,getElem?_eq_getElem→pY,getElem?_eq_some_iff→gz,getElem?_modify→amy,length_toList→qE,range→Ke,size_append→Px,toList_append→YE
open Bool renaming and_eq_true→bQ,and_eq_true_iff→CR,and_self→Kh,false_eq_true→ob,not_eq_true'→ud
open Classical renaming byContradiction→qD
open Int renaming toNat_natCast→qF
open List renaming all_eq_true→gI,append_assoc→oc,append_eq_nil_iff→xJ,append_nil→lA,drop_drop→CP,drop_zero→tZ,ext_getElem?→oh,flatMap_cons→ub,getD→Kf,getElem?_append_left→cH,getElem?_append_right→eL,getElem?_cons_succ→vN,getElem?_cons_zero→ew,getElem?_drop→oZ,getElem?_eq_getElem→aA,getElem?_eq_some_iff→az,getElem?_map→cP,getElem?_of_mem→eC,getElem?_set_ne→dH,getElem?_set_self→j9,getElem?_take→j7,getElem?_toArray→YD,getElem_mem→bO,isEmpty_nil→amz,length_append→iq,length_cons→dZ,length_drop→vR,length_map→cx,length_nil→fW,length_pos_iff→xG,length_replicate→CQ,map→vO,map_congr_left→sV,mem_append→cW,mem_append_left→amC,mem_append_right→amD,mem_cons→cN,mem_flatMap→FU,mem_map→dz,mem_of_getElem?→bS,mem_of_mem_drop→sU,mem_of_mem_take→j8,mem_replicate→YB,nil_append→jm,nodup_cons→vS,nodup_nil→Kg,range→ku,range'→xI,replicate→eB,take_of_length_le→jC,take_zero→vT,toArray→rG
open Nat renaming add_assoc→vQ,add_mul→fM,add_zero→oe,div_add_mod→amu,div_eq_of_lt→amw,div_lt_iff_lt_mul→amt,le_refl→aV,le_trans→gA,lt_or_ge→iP,mul_add_div→amv,mul_comm→Ag,mul_le_mul_right→kz,mul_one→Py,not_lt_zero→Ai,one_mul→og,zero_add→eS,zero_le→b9,zero_mul→amx
open Option renaming bind_some→PB,getD_none→amB,getD_some→kU,isSome_iff_exists→Yy,map_eq_none_iff→amA,map_eq_some_iff→au,map_map→PC,map_some→eA
open Option.some renaming inj→oi,injEq→bI
namespace Go.Vs
variable {P : Program} {G : Nat → Option (List PD)} {γ : Gh} {H : Hp} {w : World} {env : Env} {a : Act} {o : Oper}
structure Src (P:Program) (m:Mem) (w:World) (sz:Nat) (x:Value) (xs:List PD) (news:Array Value):Prop where
 len:∀w',(Builtin.lenOf x).run P w'= .ok xs.length w'
 cells:∀w',(∀ad,w'.cell? ad=w.cell? ad)→(Builtin.firstCells sz xs.length x).run P w'= .ok news w'
 rep:gD m sz news xs
theorem gD.one{m:Mem}{sz:Nat}{cs:Array Value}{es:List PD}(r:gD m sz cs es)(hs:0<sz):∀v∈cs.toList,v.oneCell'=true:=by
 intro v hv;obtain⟨k,hk⟩:=eC hv;have mR:cs[k]? =some v:=by simpa using hk
 have ah:k<cs.size:=(gz.1 mR).1;obtain⟨r1,r2,r3⟩:=r;have hi:k/sz<es.length:=by rw[amt hs,←r1];exact ah
 have he:=aA hi;obtain⟨e1,e2⟩:=r2 _ (bO hi);have hj:k%sz<(es[k/sz]).cells.length:=by rw[e1];exact Nat.mod_lt _ hs
 have hc:=aA hj;have q:=r3 _ _ _ _ he hc;have ek:k/sz*sz+k%sz=k:=by rw[Ag];exact amu k sz
 rw[ek] at q;have :cs.getD k undef=v:=by simp[bN,mR]
 rw[this] at q;exact q.one (e2 _ (bS hc))
theorem GM(I:Inv G γ H w){sz:Nat}(hs:0<sz){v:Value}{es:List PD}(h:aZ γ.mem v (.slice sz es)):∃news,Src P γ.mem w sz v es news:=by
 obtain⟨ad,cap,rfl,dO,aq⟩:=mQ h;by_cases h0:es=[]
 ·subst h0;refine⟨#[],⟨fun w'=>by simp[Builtin.lenOf],fun w' _=>?_,by simp,fun e he=>by simp at he,fun i e j c he=>by simp at he⟩⟩;cases ad<;>simp[Builtin.firstCells,loadCells,loadCellsFrom]
 ·obtain⟨b,off,vs,rfl,aS,dE,hm,hr⟩:=aq h0;refine⟨((ku (es.length*sz)).map fun k=>vs (k/sz) (k%sz)).toArray,⟨fun w'=>by simp[Builtin.lenOf],fun w' hw'=>?_,?_⟩⟩
  ·refine run_firstCells_some (P:=P) w' sz es.length _ _ _ _ (by simp) (fun j v hj=>?_);have ah:j<es.length*sz:=by have:=(az.1 hj).1;simpa using this
   have hv:vs (j/sz) (j%sz)=v:=by simpa[ah] using hj
   rw[Addr.add_lit,hw',←hv];have hi:j/sz<es.length:=by rw[amt hs];exact ah
   have:=I.mem _ _ _ (hm (j/sz) (j%sz) hi (Nat.mod_lt _ hs));have ej:off+j/sz*sz+j%sz=off+j:=by rw[vQ];congr 1;rw[Ag];exact amu j sz
   rw[ej] at this;exact this
  ·refine⟨by simp,fun e he=>⟨aS e he,dE e he⟩,fun i e j c he hc=>?_⟩;have hi:i<es.length:=(az.1 he).1;have hj:j<sz:=by rw[←aS e (bS he)];exact(az.1 hc).1
   have ah:i*sz+j<es.length*sz:=by
    calc i*sz+j<i*sz+sz:=by omega
     _=(i+1)*sz:=by rw[fM,og]
     _≤es.length*sz:=kz _ hi
   have hd:(i*sz+j)/sz=i:=by rw[Ag,amv hs,amw hj,oe]
   have kY:(i*sz+j)%sz=j:=by rw[Nat.add_comm,Nat.add_mul_mod_self_right,Nat.mod_eq_of_lt hj]
   have ee:(((ku (es.length*sz)).map fun k=>vs (k/sz) (k%sz)).toArray).getD (i*sz+j) undef=vs i j:=by
    simp[bN,ah,hd,kY]
   rw[ee];exact hr i _ _ c he hc
theorem QM(I:Inv G γ H w){sz:Nat}(hs:0<sz){v:Value}{d:D}(r:aL γ v d){xs:List PD}(h:eF sz d=some xs):
    (∃news,Src P γ.mem w sz v xs news)∧((∃s,v= .string s)∨∃ad n c,v= .slice ad n c):=by
 unfold eF at h;split at h
 ·rename_i s;split at h
  ·rename_i h1;subst h1;cases h;rw[r.bY.s9];refine⟨⟨(s.map fun b=>Value.int .u8 b.toNat).toArray,⟨fun w'=>?_,fun w' _=>?_,by simp,fun e he=>?_,fun i e j c he hc=>?_⟩⟩,.inl ⟨_,rfl⟩⟩
   ·simp[Builtin.lenOf,ByteArray.size]
   ·have e:(⟨s.toArray⟩:ByteArray).extract 0 (vO (fun b:UInt8=>PD.int IntKind.u8 (b.toNat:Int)) s).length=⟨s.toArray⟩:=by
     apply ByteArray.ext;rw[ByteArray.data_extract];simp
    simp only[Builtin.firstCells,e];simp
   ·obtain⟨b,_,rfl⟩:=dz.1 he;exact⟨rfl,fun c hc=>by simp[PD.cells] at hc;subst hc;rfl⟩
   ·simp only[cP,au] at he;obtain⟨b,hb,rfl⟩:=he
    match j with
    | 0=>
     simp only[PD.cells,ew,bI] at hc;subst hc;have :((s.map fun b=>Value.int .u8 b.toNat).toArray).getD (i*1+0) undef= .int .u8 b.toNat:=by simp[bN,hb]
     rw[this];exact .int _ _
    |j+1=>simp[PD.cells] at hc
  ·cases h
 ·cases h;have h:=r.bY.qg;subst h;refine⟨⟨#[],⟨fun w'=>by simp[Builtin.lenOf],fun w' _=>by simp[Builtin.firstCells],by simp,fun e he=>by simp at he,fun i e j c he=>by simp at he⟩⟩,.inr ⟨_,_,_,rfl⟩⟩
 ·split at h
  ·rename_i bF es gP;split at h
   ·rename_i aS;subst aS;cases h;have q:=ye r gP;refine⟨GM I hs q,.inr ?_⟩;obtain⟨ad,cap,hv,_⟩:=mQ q;exact⟨_,_,_,hv⟩
   ·cases h
  ·cases h
theorem GN{sz:Nat}(hs:0<sz):∀(n:Nat) (ps:List PD),ps.length=n*sz→(∀p∈ps,p.one=true)→(chunks sz n ps).length=n∧∀(i:Nat) e,(chunks sz n ps)[i]? =some e→e.cells=(ps.drop (i*sz)).take sz
 | 0,ps,_,_=>⟨rfl,fun i e h=>by simp[chunks] at h⟩
 |n+1,ps,hl,h1=>by
  have kI:(ps.drop sz).length=n*sz:=by
   rw[vR,hl,fM,og];omega
  obtain⟨q1,q2⟩:=GN hs n (ps.drop sz) kI (fun p hp=>h1 p (sU hp));have kZ:sz≤ps.length:=by rw[hl,fM,og];omega
  refine⟨by simp only[chunks,dZ,q1],fun i e he=>?_⟩;cases i with
  |zero=>
   simp only[chunks,ew,bI] at he;subst he;rw[amx,tZ];split
   ·rename_i c r;have hc:=h1 c (by simp);have :c.cells=[c]:=by cases c<;>first |rfl |cases hc
    rw[this];rfl
   ·rfl
  |succ i=>
   simp only[chunks,vN] at he;rw[q2 i e he,CP];congr 2
   rw[fM,og,Nat.add_comm]
theorem aad:∀{ds:List D} {ps:List PD},D.jn ds=some ps→(∀d∈ds,d.one=true)→∀p∈ps,p.one=true:=by
 intro ds ps h h1 p hp;obtain⟨k,hk⟩:=eC hp;obtain⟨_,h3⟩:=yi h;obtain⟨d,a1,a2⟩:=h3 k p hk;exact Df a2 (h1 d (bS a1))
theorem KY(I:Inv G γ H w){i off n sz b:Nat}(hs:0<sz)(hb:γ.boxes[i]? =some b){xs:List PD}(h:xU H i off n sz=some xs):
    xs.length=n∧∃news:Array Value,gD γ.mem sz news xs∧∀j v,news[j]? =some v→w.cell? ⟨b,off+j,none⟩=some v:=by
 unfold xU at h;split at h
 ·rename_i cs ak;split at h
  ·rename_i fx;obtain⟨hm,fx⟩:=fx;obtain⟨ps,nH,rfl⟩:=au.1 h;obtain⟨vs,T,fr,q1,q2,q3,_⟩:=I.box i b cs hb ak;rw[iU hm] at q1;have q3:=q3 hm;have dk:(sub cs off (off+n*sz)).length=n*sz:=by rw[wo _ _ _ fx];omega
   obtain⟨l1,l2⟩:=yi nH;have cg:ps.length=n*sz:=l1.trans dk;have dE:=aad nH (fun d hd=>q3 d (AD hd));obtain⟨c1,c2⟩:=GN hs n ps cg dE;refine⟨c1,((ku (n*sz)).map fun k=>vs.getD (off+k) undef).toArray,⟨by simp[c1],fun e he=>?_,fun k e j c hk hc=>?_⟩,fun j v hj=>?_⟩
   ·obtain⟨k,hk⟩:=eC he;have iA:k<n:=by rw[←c1];exact(az.1 hk).1
    have hc:=c2 k e hk;have hle:k*sz+sz≤n*sz:=by
     calc k*sz+sz=(k+1)*sz:=by rw[fM,og]
      _≤n*sz:=kz _ iA
    refine⟨by rw[hc];simp;omega,fun c gC=>?_⟩;rw[hc] at gC;exact dE c (sU (j8 gC))
   ·have iA:k<n:=by rw[←c1];exact(az.1 hk).1
    have eh:=c2 k e hk;rw[eh,j7] at hc;split at hc
    ·rename_i hj;rw[oZ] at hc;have ah:k*sz+j<n*sz:=by
      calc k*sz+j<k*sz+sz:=by omega
       _=(k+1)*sz:=by rw[fM,og]
       _≤n*sz:=kz _ iA
     obtain⟨d,a1,a2⟩:=l2 (k*sz+j) c hc;rw[pq,if_pos (by omega)] at a1;have hr:=q2.2 _ d a1;have e1:(((ku (n*sz)).map fun k=>vs.getD (off+k) undef).toArray).getD (k*sz+j) undef=vs.getD (off+(k*sz+j)) undef:=by
      simp[bN,ah]
     rw[e1];exact yj hr a2
    ·cases hc
   ·have ah:j<n*sz:=by have:=(gz.1 hj).1;simpa using this
    have hv:vs.getD (off+j) undef=v:=by simpa[ah] using hj
    have lY:off+j<vs.size:=by have:=q2.1;omega
    rw[←hv];simp[World.cell?,q1,lY,bN]
  ·cases h
 ·cases h
theorem QN(I:Inv G γ H w){i off n sz b c:Nat}(hs:0<sz)(hb:γ.boxes[i]? =some b){xs:List PD}(h:xU H i off n sz=some xs):∃news,Src P γ.mem w sz (.slice (some ⟨b,off,none⟩) n c) xs news:=by
 obtain⟨hl,news,h1,h2⟩:=KY I hs hb h;refine⟨news,⟨fun w'=>by simp[Builtin.lenOf,hl],fun w' hw'=>?_,h1⟩⟩;refine run_firstCells_some (P:=P) w' sz xs.length _ _ _ _ (by simpa using h1.1) (fun j v hj=>?_);rw[Addr.add_lit,hw'];exact h2 j v (by simpa using hj)
theorem QO(I:Inv G γ H w){sz:Nat}(hs:0<sz){v:Value}{d:D}(r:aL γ v d){xs:List PD}(h:rK H sz d=some xs):
    (∃news,Src P γ.mem w sz v xs news)∧((∃s,v= .string s)∨∃ad n c,v= .slice ad n c):=by
 unfold rK at h;split at h
 ·rename_i i off n cap bF;split at h
  ·rename_i aS;subst aS;cases r with
   |bu _ _ _ _ _ b c hb hc dO=>exact⟨QN I hs hb h,.inr ⟨_,_,_,rfl⟩⟩
  ·cases h
 ·rename_i i e n bF;split at h
  ·rename_i aS;subst aS;cases r with
   |aB _ _ _ _ b c hb hc hm dP=>exact⟨QN I hs hb h,.inr ⟨_,_,_,rfl⟩⟩
  ·cases h
 ·exact QM I hs r h
section
variable {t u ty e : TypeId} {i : TypeInfo} {z : Value} {du : TypeDesc} (ht : P.underlying t = some (.slice e)) (hu : P.underlying u = some du) (gF : (∃ e', du = .slice e') ∨ du = .string) (hi : P.info? e = some i) (hz : i.zero = some z)
 {x:Value} {xs:List PD} {news:Array Value} {m:Mem} (S:Src P m w i.size x xs news)
include ht hu gF hi S
theorem KZ(h0:xs=[])(base:Option Addr)(n cap:Nat)(hc:n≤cap):(Builtin.append_ #[t,u] ty #[.slice base n cap,x]).run P w= .ok (.slice base n cap) w:=by
 subst h0;have hn:news= #[]:=by have:=S.rep.1;simpa using this
 subst hn;have hl:=S.len w;have ak:=S.cells w (fun _=>rfl);simp only[fW] at hl ak;rcases gF with⟨e',rfl⟩ |rfl<;>cases base<;>simp[Builtin.append_,run_underlying ht,run_underlying hu,sizeOf,typeInfo,hi,hl,hc,ak,storeCells]
theorem aae(g n cap:Nat)(cur:Array Value)(fr:Nat×Nat)(hg:w.heap[g]? =some (.cells cur e fr))(x9:clear fr (n*i.size) cur.size)(gQ:n+xs.length≤cap)(fx:n*i.size+news.size≤cur.size)(hs:0<i.size):
    (Builtin.append_ #[t,u] ty #[.slice (some ⟨g,0,none⟩) n cap,x]).run P w=
     .ok (.slice (some ⟨g,0,none⟩) (n+xs.length) cap) (w.setRow g (cur.toList.take (n*i.size)++news.toList++cur.toList.drop (n*i.size+news.size)).toArray):=by
 have hl:=S.len w;have ak:=S.cells w (fun _=>rfl);have cC:=GI (P:=P) g (n*i.size) e fr news.toList 0 cur w hg (by simpa using x9) (by simpa using fx) (S.rep.one hs);simp only[oe,qE] at cC;rcases gF with⟨e',rfl⟩ |rfl<;>simp[Builtin.append_,run_underlying ht,run_underlying hu,sizeOf,typeInfo,hi,hl,gQ,ak,Addr.add_lit,cC]
include hz
theorem QP(base:Option Addr)(n cap:Nat)(gZ:Array Value)(hold:∀w',(∀ad,w'.cell? ad=w.cell? ad)→(Builtin.firstCells i.size n (.slice base n cap)).run P w'= .ok gZ w')
    (eU:cap<n+xs.length) (GO:((n+xs.length:Nat):Int)≤9223372036854775807) (hb:(n+xs.length)*i.bytes≤140737488355328):
    (Builtin.append_ #[t,u] ty #[.slice base n cap,x]).run P w=
     .ok (.slice (some ⟨w.heap.size,0,none⟩) (n+xs.length) (grownCap w (n+xs.length) cap e))
      (w.drew.alloc (.cells (gZ++news++Builtin.zeroCells z.cells (grownCap w (n+xs.length) cap e-(n+xs.length))) e)):=by
 have hl:=S.len w;have ak:=S.cells w.drew (fun _=>rfl);have uz:=hold w.drew (fun _=>rfl);have hn:¬(n+xs.length≤cap):=by omega
 have Dg:¬(9223372036854775807<((n:Int)+(xs.length:Int))):=by omega
 have K0:¬(281474976710656<Builtin.nextslicecap (n+xs.length) cap*i.bytes):=by have:=growslice_fits eU hb;omega
 rcases gF with⟨e',rfl⟩ |rfl<;>simp[Builtin.append_,run_underlying ht,run_underlying hu,sizeOf,typeInfo,zeroValue,hi,hz,hl,hn,Dg,K0,Question.forced,uz,ak,newRow,grownCap]
end
end Go.Vs
namespace Go.Vs
variable {P : Program} {G : Nat → Option (List PD)} {γ : Gh} {H : Hp} {w : World} {env : Env} {a : Act} {o : Oper}
theorem gD.append{m:Mem}{sz:Nat}{c1 c2:Array Value}{e1 e2:List PD}(r:gD m sz c1 e1)(q:gD m sz c2 e2):gD m sz (c1++c2) (e1++e2):=by
 obtain⟨r1,r2,r3⟩:=r;obtain⟨q1,q2,q3⟩:=q;refine⟨by simp[r1,q1,fM],fun e he=>?_,fun i e j c he hc=>?_⟩
 ·rcases cW.1 he with h |h
  ·exact r2 e h
  ·exact q2 e h
 ·by_cases hi:i<e1.length
  ·rw[cH hi] at he;have hj:j<sz:=by rw[←(r2 e (bS he)).1];exact(az.1 hc).1
   have ah:i*sz+j<c1.size:=by
    rw[r1]
    calc i*sz+j<i*sz+sz:=by omega
     _=(i+1)*sz:=by rw[fM,og]
     _≤e1.length*sz:=kz _ hi
   have:=r3 i e j c he hc;have ee:(c1++c2).getD (i*sz+j) undef=c1.getD (i*sz+j) undef:=by
    simp[bN,Ah,ah]
   rw[ee];exact this
  ·rw[eL (by omega)] at he;have kZ:c1.size≤i*sz+j:=by
    rw[r1]
    calc e1.length*sz≤i*sz:=kz _ (by omega)
     _≤i*sz+j:=by omega
   have:=q3 _ e j c he hc;have e3:i*sz+j-c1.size=(i-e1.length)*sz+j:=by
    rw[r1,Nat.sub_mul];have :e1.length*sz≤i*sz:=kz _ (by omega);omega
   have ee:(c1++c2).getD (i*sz+j) undef=c2.getD ((i-e1.length)*sz+j) undef:=by
    simp only[bN];rw[YC kZ,e3]
   rw[ee];exact this
theorem aaf{m:Mem}{b cap sz:Nat}{es:List PD}(h:aZ m (.slice (some ⟨b,0,none⟩) es.length cap) (.slice sz es)){pre:Array Value}(hp:pre.size=es.length*sz)(hm:∀o v,o<es.length*sz→m b o=some v→pre[o]? =some v):gD m sz pre es:=by
 obtain⟨ad,kH,hv,_,aq⟩:=mQ h;cases hv;refine⟨hp,fun e he=>?_,fun i e j c he hc=>?_⟩
 ·obtain⟨b',o',vs,hb,h1,h2,_⟩:=aq (fun e0=>by subst e0;simp at he);exact⟨h1 e he,h2 e he⟩
 ·obtain⟨b',o',vs,hb,h1,h2,h3,h4⟩:=aq (fun e0=>by subst e0;simp at he);cases hb;have hi:i<es.length:=(az.1 he).1;have hj:j<sz:=by rw[←h1 e (bS he)];exact(az.1 hc).1
  have ah:i*sz+j<es.length*sz:=by
   calc i*sz+j<i*sz+sz:=by omega
    _=(i+1)*sz:=by rw[fM,og]
    _≤es.length*sz:=kz _ hi
  have kX:=hm _ _ ah (by have:=h3 i j hi hj;rwa [eS] at this);have ee:pre.getD (i*sz+j) undef=vs i j:=by simp[bN,kX]
  rw[ee];exact h4 i e j c he hc
section
variable {t u ty e : TypeId} {i : TypeInfo} {z : Value} {du : TypeDesc} (ht : P.underlying t = some (.slice e)) (hu : P.underlying u = some du) (gF : (∃ e', du = .slice e') ∨ du = .string) (hi : P.info? e = some i) (hz : i.zero = some z)
 (wu:z.cells.size=i.size) (hs:0<i.size) {x:Value} {xs:List PD} {news:Array Value} (S:Src P γ.mem w i.size x xs news)
include ht hu gF hi hz wu hs S
theorem K1(I:Inv G γ H w){tk:Nat}{row:Row}{es:List PD}{r:Option (Nat×Nat)}(h1:γ.rows[tk]? =some row)(h2:H.tk[tk]? =some es.length)(he:row.e=e)(aS:row.sz=i.size)(hr:row.st es.length=some r)
    (hv:aZ γ.mem (qO r es.length) (.slice i.size es)) (gQ:roomy (es.length+xs.length) i.bytes=true):
    ∃v' w' γ',(Builtin.append_ #[t,u] ty #[qO r es.length,x]).run P w= .ok v' w'∧γ.le γ'∧Frame γ H w γ' {H with tk:=H.tk.set tk (es.length+xs.length)} w'∧
     Inv G γ' {H with tk:=H.tk.set tk (es.length+xs.length)} w'∧aL γ' v' (.bk tk e i.size (es++xs)):=by
 obtain⟨r',tq,bV⟩:=I.row tk row es.length h1 h2;rw[hr] at tq;cases tq;have AF:es.length+xs.length≤140737488355328∧(es.length+xs.length)*i.bytes≤140737488355328:=by simpa[roomy] using gQ
 by_cases h0:xs=[]
 ·-- nothing
  have hC:H.tk.set tk (es.length+xs.length)=H.tk:=by
   subst h0;apply oh;intro k;by_cases hk:tk=k
   ·subst hk;have ah:=(az.1 h2).1;rw[j9 ah,h2];rfl
   ·rw[dH hk]
  rw[hC];have cM:(Builtin.append_ #[t,u] ty #[qO r es.length,x]).run P w= .ok (qO r es.length) w:=by
   cases r with
   |none=>exact KZ ht hu gF hi S h0 none 0 0 (aV _)
   |some bc=>exact KZ ht hu gF hi S h0 _ _ _ bV.1.1
  refine⟨_,w,γ,cM,.refl γ,.refl γ H w,I,?_⟩;subst h0;rw[lA];exact .bk _ tk e i.size es row r h1 he aS hv hr rfl
 ·have lJ:0<xs.length:=xG.2 h0;have ke:es.length+xs.length≤maxLen:=by simp only[maxLen];omega
  have uE:=S.rep.1;have QQ:∀γ':Gh,∀(b cap:Nat) (cells:Array Value),γ'=γ.grow tk row (es.length+xs.length) b cap cells→γ.le γ'→es.length+xs.length≤cap→gD γ.mem i.size (cells.extract 0 ((es.length+xs.length)*i.size)) (es++xs)→
      aL γ' (.slice (some ⟨b,0,none⟩) (es.length+xs.length) cap) (.bk tk e i.size (es++xs)):=by
   intro γ' b cap cells hγ hle dO wx;subst hγ;have kG:tk<γ.rows.length:=(az.1 h1).1;have K2:=(wx.mono hle.mem).slice (b:=b) (cap:=cap) (by simpa using dO) (fun o ho=>by
    have ho:o<(es.length+xs.length)*i.size:=by simpa using ho
    simp only[Gh.grow,if_true,aS];rw[if_pos ho,Array.getElem?_extract];simp;intro h;have aS:=wx.1;simp at aS;omega)
   refine .bk _ tk e i.size (es++xs) (row.grow (es.length+xs.length) b cap) (some (b,cap)) (by simp[Gh.grow,kG]) he aS (by simpa using K2) (by simp[Row.grow]) (by simp[qO])
  have fresh:∀(base:Option Addr) (n cap:Nat),qO r es.length= .slice base n cap→n=es.length→cap<es.length+xs.length→
      ∃v' w' γ',(Builtin.append_ #[t,u] ty #[qO r es.length,x]).run P w= .ok v' w'∧γ.le γ'∧Frame γ H w γ' {H with tk:=H.tk.set tk (es.length+xs.length)} w'∧
       Inv G γ' {H with tk:=H.tk.set tk (es.length+xs.length)} w'∧aL γ' v' (.bk tk e i.size (es++xs)):=by
   intro base n cap hval hn dO;subst hn;rw[hval] at hv⊢;obtain⟨gZ,So⟩:=GM (P:=P) I hs hv;have cM:=QP (ty:=ty) ht hu gF hi hz S base es.length cap gZ (fun w' hw'=>So.cells w' hw') dO (by omega) AF.2;have kZ:=grownCap_ge w (es.length+xs.length) cap e;have gC:=grownCap_le_maxLen w (es.length+xs.length) cap e ke;have Au:(gZ++news++Builtin.zeroCells z.cells (grownCap w (es.length+xs.length) cap e-(es.length+xs.length))).size=grownCap w (es.length+xs.length) cap e*row.sz:=by
    rw[aS];simp only[Px,size_zeroCells,wu,So.rep.1,uE,←fM];congr 1;omega
   have rP:(w.drew.alloc (.cells (gZ++news++Builtin.zeroCells z.cells (grownCap w (es.length+xs.length) cap e-(es.length+xs.length))) e)).heap[w.heap.size]? =
       some (.cells (gZ++news++Builtin.zeroCells z.cells (grownCap w (es.length+xs.length) cap e-(es.length+xs.length))) row.e (0,0)):=by
    rw[he];have:=heap_alloc w.drew (.cells (gZ++news++Builtin.zeroCells z.cells (grownCap w (es.length+xs.length) cap e-(es.length+xs.length))) e) w.heap.size;rw[this];exact if_pos rfl
   obtain⟨b1,b2,b3⟩:=I.Qn h1 h2 (b:=w.heap.size) (cap:=grownCap w (es.length+xs.length) cap e) (f':=es.length+xs.length) (by omega) kZ gC Au rP (fun k hk=>by simp)
    (fun c hc=>by rw[heap_alloc];exact if_neg hc) (fun hb=>by have:=I.mP hb;omega) (fun o v hm=>by have:=I.qP hm;omega) (fun t' _ hf=>by have:=I.nE hf;omega) (.inl rfl) (fun x hx=>by have:=I.Gt hx;omega) ⟨b9 _,aV _⟩ rfl rfl rfl (by simp)
   refine⟨_,_,_,cM,b1,b2,b3,QQ _ _ _ _ rfl b1 kZ ?_⟩;have hex:(gZ++news++Builtin.zeroCells z.cells (grownCap w (es.length+xs.length) cap e-(es.length+xs.length))).extract 0 ((es.length+xs.length)*i.size)=gZ++news:=by
    have :(es.length+xs.length)*i.size=(gZ++news).size:=by simp[So.rep.1,uE,fM]
    rw[this];apply FT;simp[jC]
   rw[hex];exact So.rep.append S.rep
  cases r with
  |none=>
   have js:es.length=0:=bV;exact fresh none 0 0 rfl js.symm (by omega)
  |some bc=>
   obtain⟨b,cap⟩:=bc;obtain⟨⟨hle,QR⟩,iy⟩:=bV;by_cases fx:es.length+xs.length≤cap
   ·obtain⟨cur,fr,q1,q0,q2,q3,q4,q5⟩:=iy (by omega);rw[aS] at q2 q4;have QS:es.length*i.size+news.size≤cur.size:=by
     rw[uE,q2,←fM];exact kz _ fx
    rw[he] at q1;rw[aS] at q0;have cM:=aae (ty:=ty) ht hu gF hi S b es.length cap cur fr q1 q0 fx QS hs;have hold:∀o v,γ.mem b o=some v→o<es.length*i.size∧cur[o]? =some v:=by
     intro o v hm;have ah:o<es.length*i.size:=by
      rcases iP o (es.length*i.size) with h |h
      ·exact h
      ·rw[q4 o h] at hm;cases hm
     have:=I.mem b o v hm;simp only[World.cell?,q1] at this;exact⟨ah,by simpa using this⟩
    have mT:∀o,o<es.length*i.size→(cur.toList.take (es.length*i.size)++news.toList++cur.toList.drop (es.length*i.size+news.size)).toArray[o]? =cur[o]?:=by
     intro o ho;have h1:o<(cur.toList.take (es.length*i.size)).length:=by simp;omega
     simp only[YD,oc];rw[cH h1,j7,if_pos ho];simp
    have wy:(cur.toList.take (es.length*i.size)++news.toList++cur.toList.drop (es.length*i.size+news.size)).toArray.size=cap*row.sz:=by
     rw[aS,←q2];simp;omega
    have am4:es.length*i.size≤(es.length+xs.length)*row.sz:=by rw[aS,fM];omega
    obtain⟨b1,b2,b3⟩:=I.Qn h1 h2 (b:=b) (cap:=cap) (f':=es.length+xs.length) (fr:=fr) (by omega) fx q3 wy (by rw[he];exact setRow_heap w b cur _ e fr q1) (fun k hk bW=>q0 k (by rw[aS,fM] at hk;omega) (by rw[wy,aS,←q2] at bW;exact bW))
     (fun c hc=>setRow_other w b c _ hc) q5 (fun o v hm=>by
      obtain⟨c1,c2⟩:=hold o v hm;exact⟨by omega,by rw[mT o c1];exact c2⟩) (fun t' aq hf=>aq (I.free t' tk b hf ⟨row,es.length,cap,h1,h2,hr,by omega⟩)) (.inr ⟨row,es.length,cap,h1,h2,hr,by omega⟩) (fun x hx=>by rw[QR] at hx;exact(oi hx).symm) (by
     obtain⟨us,fru,z1,z2,z3⟩:=I.KA QR;rw[he,q1] at z1;cases z1;exact z3) rfl rfl rfl (by simp[World.setRow])
    refine⟨_,_,_,cM,b1,b2,b3,QQ _ _ _ _ rfl b1 fx ?_⟩;have hex:((cur.toList.take (es.length*i.size)++news.toList++cur.toList.drop (es.length*i.size+news.size)).toArray).extract 0 ((es.length+xs.length)*i.size)=(cur.toList.take (es.length*i.size)).toArray++news:=by
     have hl:(cur.toList.take (es.length*i.size)).length=es.length*i.size:=by simp;omega
     have :(es.length+xs.length)*i.size=((cur.toList.take (es.length*i.size))++news.toList).length:=by simp only[iq,hl,qE,uE,fM]
     apply FT;simp only[Array.toList_extract,List.extract_eq_take_drop,tZ,Nat.sub_zero,YE];rw[this];exact List.take_left
    rw[hex];refine(aaf hv ?_ (fun o v ho hm=>?_)).append S.rep
    ·simp;omega
    ·obtain⟨c1,c2⟩:=hold o v hm;simp only[YD,j7,if_pos c1];simpa using c2
   ·exact fresh _ _ cap rfl rfl (by omega)
end
theorem QT(l:List Nat)(x y:Nat):(l++[x]).set l.length y=l++[y]:=by simp
theorem aag(I:Inv G γ H w)(E:bh γ env a.tmps){t u e:TypeId}{s x:Operand}{s' x':aw}{i:TypeInfo}{z:Value}{du:TypeDesc}(ho:o.op= .call {callee:=.builtin .append,args:=#[s,x],argTypes:=#[t,u]})
    (ht:P.underlying t=some (.slice e)) (hu:P.underlying u=some du) (gF:(∃e',du= .slice e')∨du= .string) (hi:P.info? e=some i) (hz:i.zero=some z) (wu:z.cells.size=i.size) (iB:0<i.size)
    (hs:aQ s=some s') (hx:aQ x=some x') {d:D} {H':Hp} (he:aN G env H (.append e i.size i.bytes s' x')=some (d,H')):cA P G γ H w a o d H':=by
 have eH:=bT E hs;have aJ:=bT E hx;simp only[aN] at he;split at he
 ·rename_i xs gh;obtain⟨⟨news,S⟩,_⟩:=QO (P:=P) I iB aJ gh;have fin:∀v' w',(Builtin.append_ #[t,u] o.type #[a.eval s,a.eval x]).run P w= .ok v' w'→(execOp a.eval o).run P w= .ok (.value v') w':=by
   intro v' w' h;simp[execOp,ho,resolve,invoke,builtin,h]
  unfold fj at he;split at he
  ·-- onto nil
   rename_i hn;split at he
   ·rename_i gQ;cases he;rw[hn] at eH;have hv:=eH.bY.qg
    let row:Row:=⟨e,i.size,fun n=>if n=0 then some none else none⟩
    obtain⟨b1,b2,b3⟩:=I.Gu row 0 none rfl (fun n x hx=>by
     simp only[row] at hx;split at hx
     ·omega
     ·cases hx) rfl (fun _ _ h=>by cases h) (fun n b cap hx=>by
     simp only[row] at hx;split at hx<;>cases hx)
    obtain⟨v',w',γ',c1,c2,c3,c4,c5⟩:=K1 (ty:=o.type) ht hu gF hi hz wu iB (γ:={γ with rows:=γ.rows++[row]}) S b3 (tk:=H.tk.length) (row:=row) (es:=[]) (r:=none)
     (by show(γ.rows++[row])[H.tk.length]? =_;rw[←I.fY];simp) (by simp) rfl rfl rfl (.kD _ _ _) (by simpa using gQ)
    simp only[fW,eS,QT,jm] at c3 c4 c5;refine⟨v',w',γ',.inl (fin v' w' ?_),b1.trans c2,b2.trans b1.base c3,c4,c5⟩;rw[hv];exact c1
   ·cases he
  ·rename_i e' bF es hn;split at he
   ·rename_i hc;obtain⟨rfl,rfl,gQ⟩:=hc;cases he;rw[hn] at eH;generalize cD:a.eval s=v at eH;cases eH with
    |cI b n e sz iz x8 dP hlen gY=>
     subst hlen
     let row:Row:=⟨e',i.size,fun n=>if n=es.length then some (some (b,es.length)) else none⟩
     obtain⟨b1,b2,b3⟩:=I.Gu row es.length (some (b,es.length)) (by simp[row]) (fun n x hx=>by
      simp only[row] at hx;split at hx
      ·omega
      ·cases hx) ⟨⟨aV _,dP⟩,fun h=>by omega⟩ (fun _ _ h=>by cases h;rfl) (fun n b' cap hx=>by
      simp only[row] at hx;split at hx
      ·cases hx;exact x8
      ·cases hx)
     obtain⟨v',w',γ',c1,c2,c3,c4,c5⟩:=K1 (ty:=o.type) ht hu gF hi hz wu iB (γ:={γ with rows:=γ.rows++[row]}) S b3 (tk:=H.tk.length) (row:=row) (es:=es) (r:=some (b,es.length))
      (by show(γ.rows++[row])[H.tk.length]? =_;rw[←I.fY];simp) (by simp) rfl rfl (by simp[row]) gY gQ
     simp only[QT] at c3 c4 c5;refine⟨v',w',γ',.inl (fin v' w' ?_),b1.trans c2,b2.trans b1.base c3,c4,c5⟩;rw[cD];exact c1
   ·cases he
  ·rename_i tk e' bF es hn;split at he
   ·rename_i hc;obtain⟨rfl,rfl,cw,gQ⟩:=hc;cases he;rw[hn] at eH;generalize cD:a.eval s=v at eH;cases eH with
    |bk _ _ _ _ _ row r h1 h2 h3 h4 h5 h6=>
     subst h6;obtain⟨v',w',γ',c1,c2,c3,c4,c5⟩:=K1 (ty:=o.type) ht hu gF hi hz wu iB S I h1 cw h2 h3 h5 h4 gQ;refine⟨v',w',γ',.inl (fin v' w' ?_),c2,c3,c4,c5⟩;rw[cD];exact c1
   ·cases he
  ·cases he
 ·cases he
theorem QU:∀{xs:List PD} {s:List UInt8},bytesOf xs=some s→∃ns:List Int,xs=ns.map (fun n=>PD.int .u8 n)∧s=ns.map fun n=>UInt8.ofNat n.toNat:=by
 intro xs
 induction xs with
 |nil=>intro s h;simp only[bytesOf] at h;cases h;exact⟨[],rfl,rfl⟩
 |cons x r ih=>
  intro s h;unfold bytesOf at h;split at h
  ·rename_i e;cases e
  ·rename_i n r' e;cases e;obtain⟨s',hs,rfl⟩:=au.1 h;obtain⟨ns,rfl,rfl⟩:=ih hs;exact⟨n::ns,rfl,rfl⟩
  ·cases h
theorem aah(I:Inv G γ H w)(E:bh γ env a.tmps){s t e:TypeId}{x:Operand}{x':aw}(ho:o.op= .convert s t x)(hs:P.underlying s=some (.slice e))(gP:P.underlying e=some (.int .u8))(ht:P.underlying t=some .string)(hx:aQ x=some x')
    {d:D} {H':Hp} (he:aN G env H (.toStr x')=some (d,H')):cA P G γ H w a o d H':=by
 have aJ:=bT E hx;simp only[aN] at he;split at he
 ·rename_i xs gh;obtain⟨str,K3,hh⟩:=au.1 he;cases hh;obtain⟨ns,rfl,rfl⟩:=QU K3;refine .same I (v:=.string ⟨(ns.map fun n=>UInt8.ofNat n.toNat).toArray⟩) ?_ (.p _ _ (.str _));have GP:∀ad l c,a.eval x= .slice ad l c→ns=[]→l=0→(execOp a.eval o).run P w= .ok (.value (.string ⟨(ns.map fun n=>UInt8.ofNat n.toNat).toArray⟩)) w:=by
   intro ad l c hv uF hl;subst uF;subst hl;cases ad with
   |none=>
    have:=run_convert_bytes_nil (P:=P) w s e hs gP 0 c t ht;simp[execOp,ho,hv,this,ByteArray.empty,ByteArray.emptyWithCapacity];rfl
   |some ad=>
    have:=run_convert_bytes_back (P:=P) w s t e ad c [] hs gP ht (fun j hj=>by simp at hj);simp[execOp,ho,hv] at this⊢;simp[this]
  unfold sX at gh;split at gh
  ·rename_i i off n cap bF hn;split at gh
   ·rename_i aS;subst aS;rw[hn] at aJ;generalize hv:a.eval x=v at aJ;cases aJ with
    |bu _ _ _ _ _ b c hb hc dO=>
     obtain⟨hl,news,h1,h2⟩:=KY I (by omega) hb gh;have hl:ns.length=n:=by simpa using hl
     by_cases h0:ns=[]
     ·exact GP _ _ _ hv h0 (by rw[←hl,h0];rfl)
     ·have jt:∀k,k<ns.length→w.cell? ⟨b,off+k,none⟩=some (.int .u8 (ns.getD k 0)):=by
       intro k hk;have hr:=h1.2.2 k (.int .u8 ns[k]) 0 (.int .u8 ns[k]) (by simp[hk]) rfl;have nI:k<news.size:=by rw[h1.1];simpa using hk
       have e1:news.getD (k*1+0) undef=news[k]:=by simp[bN,nI]
       rw[e1] at hr;have:=h2 k news[k] (pY nI);rw[this,hr.iI];simp[Kf,hk]
      have q:=run_convert_bytes_arg (P:=P) w s e hs gP b off n c ns hl (fun k hk=>jt k (by omega)) t ht;simp[execOp,ho,hv,q,strOfNums]
   ·cases gh
  ·rename_i i e0 n bF hn;split at gh
   ·rename_i aS;subst aS;rw[hn] at aJ;generalize hv:a.eval x=v at aJ;cases aJ with
    |aB _ _ _ _ b c hb hc hm bW dP=>
     obtain⟨hl,news,h1,h2⟩:=KY I (by omega) hb gh;have hl:ns.length=n:=by simpa using hl
     by_cases h0:ns=[]
     ·exact GP _ _ _ hv h0 (by rw[←hl,h0];rfl)
     ·have jt:∀k,k<ns.length→w.cell? ⟨b,0+k,none⟩=some (.int .u8 (ns.getD k 0)):=by
       intro k hk;have hr:=h1.2.2 k (.int .u8 ns[k]) 0 (.int .u8 ns[k]) (by simp[hk]) rfl;have nI:k<news.size:=by rw[h1.1];simpa using hk
       have e1:news.getD (k*1+0) undef=news[k]:=by simp[bN,nI]
       rw[e1] at hr;have:=h2 k news[k] (pY nI);rw[this,hr.iI];simp[Kf,hk]
      have q:=run_convert_bytes_arg (P:=P) w s e hs gP b 0 n c ns hl (fun k hk=>jt k (by omega)) t ht;simp[execOp,ho,hv,q,strOfNums]
   ·cases gh
  unfold Kr at gh;split at gh
  ·rename_i hn;rw[hn] at aJ;have uF:ns=[]:=by cases ns with |nil=>rfl |cons=>cases gh
   exact GP _ _ _ aJ.bY.qg uF rfl
  ·split at gh
   ·rename_i bF es AA;split at gh
    ·rename_i aS;subst aS;cases gh;obtain⟨ad,cap,hv,dO,aq⟩:=mQ (ye aJ AA);by_cases h0:ns=[]
     ·exact GP _ _ _ hv h0 (by simp[h0])
     ·obtain⟨b,off,vs,rfl,h1,h2,h3,h4⟩:=aq (by simpa using h0);have q:=run_convert_bytes_arg (P:=P) w s e hs gP b off ns.length cap ns rfl (fun k hk=>by
       have hm:=I.mem _ _ _ (h3 k 0 (by simpa using hk) (by omega));have hr:=h4 k (.int .u8 ns[k]) 0 (.int .u8 ns[k]) (by simp[hk]) rfl;rw[hr.iI] at hm;simp only[Py,oe] at hm;rw[hm];simp[Kf,hk]) t ht
      have hlen:(vO (fun n=>PD.int IntKind.u8 n) ns).length=ns.length:=by simp
      rw[hlen] at hv;simp[execOp,ho,hv,q,strOfNums]
    ·cases gh
   ·cases gh
 ·cases he
theorem aai(I:Inv G γ H w)(E:bh γ env a.tmps){s t e:TypeId}{x:Operand}{x':aw}(ho:o.op= .convert s t x)(hs:P.underlying s=some .string)(ht:P.underlying t=some (.slice e))(gP:P.underlying e=some (.int .u8))(hx:aQ x=some x')
    {d:D} {H':Hp} (he:aN G env H (.toBytes e x')=some (d,H')):cA P G γ H w a o d H':=by
 have aJ:=bT E hx;simp only[aN,P5] at he;split at he
 ·rename_i str K3;split at he
  ·rename_i qT;cases he;rw[K3] at aJ;have hv:=aJ.bY.s9;have aS:(⟨str.toArray⟩:ByteArray).size=str.length:=by simp[ByteArray.size]
   have cM:=run_bytes_of_string w s t e ⟨str.toArray⟩ hs ht gP;rw[aS] at cM;have kZ:=grownCap_ge w str.length 0 e;have ke:str.length≤maxLen:=by simp only[maxLen];omega
   have gC:=grownCap_le_maxLen w str.length 0 e ke;obtain⟨b1,b2,b3⟩:=I.drew.Zk (bytesRow ⟨str.toArray⟩ (grownCap w str.length 0 e)) e ((bytesRow ⟨str.toArray⟩ (grownCap w str.length 0 e)).size,(bytesRow ⟨str.toArray⟩ (grownCap w str.length 0 e)).size+1);refine⟨.slice (some ⟨w.heap.size,0,none⟩) str.length (grownCap w str.length 0 e),_,_,.inl (by simp[execOp,ho,hv,cM]),b1,(Frame.drew γ H w).trans rfl b2,b3,?_⟩;have wx:gD γ.mem 1 ((str.map fun b=>Value.int .u8 b.toNat).toArray) (str.map fun b=>PD.int .u8 b.toNat):=by
    refine⟨by simp,fun e he=>?_,fun i e j c he hc=>?_⟩
    ·obtain⟨b,_,rfl⟩:=dz.1 he;exact⟨rfl,fun c hc=>by simp[PD.cells] at hc;subst hc;rfl⟩
    ·simp only[cP,au] at he;obtain⟨b,hb,rfl⟩:=he
     match j with
     | 0=>
      simp only[PD.cells,ew,bI] at hc;subst hc;have :((str.map fun b=>Value.int .u8 b.toNat).toArray).getD (i*1+0) undef= .int .u8 b.toNat:=by simp[bN,hb]
      rw[this];exact .int _ _
     |j+1=>simp[PD.cells] at hc
   have K2:=(wx.mono b1.mem).slice (b:=w.heap.size) (cap:=grownCap w str.length 0 e) (by simpa using kZ) (fun k hk=>by
    have hk:k<str.length:=by simpa using hk
    have hd:w.drew.heap.size=w.heap.size:=rfl;simp only[Gh.wk,hd,if_true];simp[bytesRow,Ah,hk])
   exact .p _ _ (by simpa using K2)
  ·cases he
 ·cases he
end Go.Vs
namespace Go.Vs
variable {P : Program} {G : Nat → Option (List PD)} {γ : Gh} {H : Hp} {w : World} {env : Env} {a : Act} {o : Oper}
def wz(fr:Nat×Nat)(n:Nat):Nat×Nat:=if fr.1==fr.2 then(0,0+n) else(min fr.1 0,max fr.2 (0+n))
theorem aaj{b n:Nat}{cs:Array Value}{T:Nat}{fr:Nat×Nat}(hn:0<n)(hb:w.heap[b]? =some (.cells cs T fr))(c:Nat):
    (w.freeze ⟨b,0,none⟩ n).heap[c]? =if c=b then some (.cells cs T (wz fr n)) else w.heap[c]?:=by
 have js:¬n=0:=by omega
 simp only[World.freeze,js,if_false,amy];by_cases h:c=b
 ·subst h;rw[if_pos rfl,if_pos rfl,hb];rfl
 ·rw[if_neg (Ne.symm h),if_neg h]
theorem aak{fr:Nat×Nat}{n k:Nat}(h:(wz fr n).1≤k∧k<(wz fr n).2):k<n∨(fr.1<fr.2∧k<fr.2)∨fr.2<fr.1:=by
 unfold wz at h;split at h
 ·exact .inl (by simpa using h.2)
 ·rename_i aq;have aq:fr.1≠fr.2:=by simpa using aq
  simp at h;by_cases hk:k<n
  ·exact .inl hk
  ·by_cases h2:fr.1<fr.2
   ·exact .inr (.inl ⟨h2,by omega⟩)
   ·exact .inr (.inr (by omega))
theorem Inv.freeze(I:Inv G γ H w){b n:Nat}{cs:Array Value}{T:Nat}{fr:Nat×Nat}(hn:0<n)(hb:w.heap[b]? =some (.cells cs T fr))(x8:γ.base≤b)(hk:∀k,k<n→γ.mem b k≠none)
    (hle:n≤cs.size) (iy:∀k,k<cs.size→(wz fr n).1≤k∧k<(wz fr n).2→(fr.1≤k∧k<fr.2)∨γ.mem b k≠none):
    Frame γ H w γ H (w.freeze ⟨b,0,none⟩ n)∧Inv G γ H (w.freeze ⟨b,0,none⟩ n):=by
 have hh:=aaj (w:=w) hn hb;have js:¬n=0:=by omega
 have QV:∀c,qc (γ.mem c) (w.heap[c]?) ((w.freeze ⟨b,0,none⟩ n).heap[c]?):=by
  intro c;rw[hh c];by_cases h:c=b
  ·subst h;rw[if_pos rfl];exact .inr ⟨cs,T,fr,wz fr n,hb,rfl,iy⟩
  ·rw[if_neg h];exact .refl _ _
 have aS:(w.freeze ⟨b,0,none⟩ n).heap.size=w.heap.size:=by simp[World.freeze,js]
 refine⟨⟨by simp[World.freeze,js],by simp[World.freeze,js],by simp[World.freeze,js],by omega,fun c _ _=>⟨fun hc=>?_,QV c⟩,fun _ _ _ _=>rfl,fun _ h=>.inl h,fun _ _ h=>.inl h,fun _ h=>.inl h⟩,?_⟩
 ·rw[hh c,if_neg (by omega)]
 ·have mS:∀c q,(w.freeze ⟨b,0,none⟩ n).cell? ⟨c,q,none⟩=w.cell? ⟨c,q,none⟩:=by
   intro c q;unfold World.cell?;simp only[hh c];by_cases h:c=b
   ·subst h;simp[hb]
   ·simp[h]
  constructor
  ·rw[aS];exact I.size
  ·intro c T' m hc;obtain⟨us,ct,h2,h3,h4⟩:=I.br c T' m hc;rw[hh c];by_cases h:c=b
   ·subst h;rw[if_pos rfl];rw[hb] at h2;cases h2;refine⟨_,_,rfl,h3,fun he=>?_⟩;have h4:=h4 he;unfold wz;split<;>simp<;>omega
   ·rw[if_neg h];exact⟨us,ct,h2,h3,h4⟩
  ·exact I.iV
  ·intro c q v h;rw[mS];exact I.mem c q v h
  ·exact I.jQ
  ·exact I.cT
  ·exact I.nodup
  ·intro i c bL hc ak;obtain⟨cv,T',ct,a1,a2⟩:=I.box i c bL hc ak;by_cases aq:c=b
   ·subst aq;have h0:bL=[]:=qD fun h0=>hk 0 hn (I.iw c 0 ⟨i,bL,hc,ak,h0⟩);subst h0;exact⟨_,_,_,by rw[iU rfl,hh c,if_pos rfl],⟨b9 _,fun i d hd=>by simp at hd⟩,fun _ c hc=>by simp at hc,fun h=>(h rfl).elim⟩
   ·exact⟨cv,T',ct,by rw[hh c,if_neg aq];exact a1,a2⟩
  ·exact I.iw
  ·exact I.jE
  ·exact I.fY
  ·intro t row f h1 h2;obtain⟨r,a1,a2⟩:=I.row t row f h1 h2;exact⟨r,a1,a2.Qj (fun _ _ h=>h) (fun c _ _ _=>QV c) (fun _ _ _ _ _=>rfl) (fun _ _ _ _ h=>h)⟩
  ·exact I.jR
  ·exact I.free
theorem aal{t:TypeId}(h:GA P t=true):∃e,P.underlying t=some (.pointer e):=by
 unfold GA at h;split at h
 ·exact⟨_,by assumption⟩
 ·cases h
theorem aam(I:Inv G γ H w)(E:bh γ env a.tmps){x:Operand}{x':aw}{ts:Array TypeId}(ho:o.op= .call {callee:=.builtin .unsafeSliceData,args:=#[x],argTypes:=ts})(hp:GA P o.type=true)(hx:aQ x=some x')
    {d:D} {H':Hp} (he:aN G env H (.sdata x')=some (d,H')):cA P G γ H w a o d H':=by
 have aJ:=bT E hx;obtain⟨ep,hp⟩:=aal hp;simp only[aN] at he;obtain⟨d0,hd,hh⟩:=au.1 he;cases hh;have fin:∀v w',(Builtin.unsafeSliceData_ ts o.type #[a.eval x]).run P w= .ok v w'→(execOp a.eval o).run P w= .ok (.value v) w':=by
  intro v w' h;simp[execOp,ho,resolve,invoke,builtin,h]
 unfold P4 at hd;split at hd
 ·rename_i hn;cases hd;rw[hn] at aJ;have hv:=aJ.bY.qg;exact .same I (fin _ _ (by rw[hv];rfl)) (.p _ _ .iQ)
 ·rename_i t e sz es hn;rw[hn] at aJ;generalize cD:a.eval x=v at aJ;cases aJ with
  |bk _ _ _ _ _ row r h1 h2 h3 h4 h5 h6=>
   subst h6;cases r with
   |none=>
    have kf:es=[]:=by
     obtain⟨ad,kH,hv,_,aq⟩:=mQ h4;by_cases h0:es=[]
     ·exact h0
     ·obtain⟨b',o',vs,hb,_⟩:=aq h0;subst hb;simp[qO] at hv
    subst kf;simp only[amz,if_true] at hd;split at hd
    ·cases hd;exact .same I (fin _ _ (by rw[cD];rfl)) (.iH _)
    ·cases hd
   |some bc=>
    obtain⟨b,cap⟩:=bc;by_cases h0:es=[]
    ·subst h0;simp only[amz,if_true] at hd;split at hd
     ·rename_i hf;cases hd;by_cases hc:cap=0
      ·subst hc;obtain⟨r',q1,q2⟩:=I.row t row 0 h1 hf;have h5:row.st 0=some (some (b,0)):=h5;rw[h5] at q1;cases q1;obtain⟨us,fr,q3,_⟩:=I.KA q2.1.2;have tr:w.shape? b=some (row.e,us.size):=by simp[World.shape?,q3]
       have cM:=Lib.run_unsafeSliceData_zero (P:=P) w ts o.type ep hp ⟨b,0,none⟩ 0 _ tr;obtain⟨F,J⟩:=I.Qk (.view ⟨b,0,none⟩ ep);exact⟨_,_,γ,.inl (fin _ _ (by rw[cD];exact cM)),.refl γ,F,J,.iH _⟩
      ·exact .same I (fin _ _ (by rw[cD];exact Lib.run_unsafeSliceData_row (P:=P) w ts o.type _ _ cap hc)) (.iH _)
     ·cases hd
    ·have lJ:0<es.length:=xG.2 h0;rw[if_neg (by simpa using h0)] at hd;cases hd;obtain⟨ad,kH,hv,dO,_⟩:=mQ h4;have hc:cap≠0:=by
      have :cap=kH:=by simp[qO] at hv;exact hv.2
      omega
     exact .same I (fin _ _ (by rw[cD];exact Lib.run_unsafeSliceData_row (P:=P) w ts o.type _ _ cap hc)) (.fN b es.length cap _ (.bk _ t e sz es row (some (b,cap)) h1 h2 h3 h4 h5 rfl) lJ (I.iV t row _ b cap h1 h5))
 ·rename_i e sz es hn;split at hd
  ·cases hd
  ·rename_i h0;cases hd;have h0:es≠[]:=by simpa using h0
   have lJ:0<es.length:=xG.2 h0;rw[hn] at aJ;generalize cD:a.eval x=v at aJ;cases aJ with
   |cI b n _ _ _ hb ht hlen gY=>
    subst hlen;exact .same I (fin _ _ (by rw[cD];exact Lib.run_unsafeSliceData_row (P:=P) w ts o.type _ _ es.length (by omega))) (.fN b es.length es.length _ (.cI b es.length e sz es hb ht rfl gY) lJ hb)
 ·cases hd
theorem run_loadBytes:∀(l:List Int) (b off:Nat) (acc:ByteArray),(∀j x,l[j]? =some x→w.cell? ⟨b,off+j,none⟩=some (.int .u8 x))→
    (loadBytes ⟨b,off,none⟩ acc l.length).run P w= .ok ⟨acc.data++(l.map fun n=>UInt8.ofNat n.toNat).toArray⟩ w
 |[],b,off,acc,_=>by simp[loadBytes]
 |x::l,b,off,acc,h=>by
  have h0:w.cell? ⟨b,off,none⟩=some (.int .u8 x):=h 0 x rfl;have ih:=run_loadBytes l b (off+1) (acc.push (x.toNat.toUInt8)) (fun j y hy=>by
   have:=h (j+1) y (by simpa using hy);have e:off+1+j=off+(j+1):=by omega
   rw[e];exact this)
  have KQ:(⟨b,off,none⟩:Addr).add 1=⟨b,off+1,none⟩:=by simp[Addr.add]
  simp only[dZ,loadBytes,Sem.run_bind,run_load,h0,Result.andThen,KQ];rw[ih];congr 1
  apply ByteArray.ext;simp[ByteArray.push]
theorem aan(I:Inv G γ H w)(E:bh γ env a.tmps){x n:Operand}{x' n':aw}{t it e:TypeId}(ho:o.op= .call {callee:=.builtin .unsafeString,args:=#[x,n],argTypes:=#[t,it]})(hp:P.underlying t=some (.pointer e))(hc:P.cellsOf e=1)
    (hx:aQ x=some x') (hn:aQ n=some n') {d:D} {H':Hp} (he:aN G env H (.ustr e x' n')=some (d,H')):cA P G γ H w a o d H':=by
 have aJ:=bT E hx;have qh:=bT E hn;simp only[aN] at he;have fin:∀v w',(Builtin.unsafeString_ #[t,it] o.type #[a.eval x,a.eval n]).run P w= .ok v w'→(execOp a.eval o).run P w= .ok (.value v) w':=by
  intro v w' h;simp[execOp,ho,resolve,invoke,builtin,h]
 unfold F9 at he;split at he
 ·rename_i m hm;rw[hm] at qh;have K4:=qh.bY.iI;have none':∀p,a.eval x= .pointer p→m=0→cA P G γ H w a o (.p (.str [])) H:=by
   intro p hv h0;subst h0;exact .same I (fin _ _ (by rw[hv,K4];exact Lib.run_unsafeString_none (P:=P) w t it o.type p)) (.p _ _ (.str []))
  split at he
  ·rename_i iX;rw[iX] at aJ;split at he
   ·rename_i h0;cases he;exact none' _ aJ.bY.C9 h0
   ·cases he
  ·rename_i iX;rw[iX] at aJ;split at he
   ·rename_i h0;cases he;generalize cD:a.eval x=v at aJ;cases aJ with
    |iH p=>exact none' p cD h0
   ·cases he
  ·rename_i tk e' sz es iX;rw[iX] at aJ;split at he
   ·rename_i eh;obtain⟨rfl,rfl,rfl,cw,qT⟩:=eh;obtain⟨s,hs,hh⟩:=au.1 he;cases hh;obtain⟨ns,rfl,rfl⟩:=QU hs;generalize cD:a.eval x=v at aJ;cases aJ with
    |fN b n cap _ h lJ x8=>
     cases h with
     |bk _ _ _ _ _ row r h1 h2 h3 h4 h5 h6=>
      cases r with
      |none=>simp[qO] at h6
      |some bc=>
       obtain⟨b',kH⟩:=bc;simp only[qO,Value.slice.injEq,bI,Addr.mk.injEq,and_true] at h6;obtain⟨rfl,rfl,rfl⟩:=h6;have aq:ns≠[]:=by intro h;subst h;simp at lJ
       obtain⟨r',q1,q2⟩:=I.row tk row _ h1 cw;rw[h5] at q1;cases q1;obtain⟨us,fr,z1,z2,z3,z4⟩:=I.KA q2.1.2;rw[h3,Py] at z2 z3;have hlen:(ns.map fun n=>PD.int .u8 n).length=ns.length:=by simp
       simp only[cx] at qT lJ h5 q2 cD K4 h4 cw;obtain⟨ad,KH,rR,am6,qU⟩:=mQ h4;obtain⟨b2,o2,vs,aC,g1,g2,g3,g4⟩:=qU (by simpa using aq);simp only[Value.slice.injEq] at rR;rw[aC] at rR;obtain⟨rR,_,_⟩:=rR;cases rR;have ey:∀k,k<ns.length→∃n,ns[k]? =some n∧γ.mem b k=some (.int .u8 n):=by
        intro k hk;have:=g3 k 0 (by simpa using hk) (by omega);have e1:(ns.map fun n=>PD.int .u8 n)[k]? =some (.int .u8 (ns[k])):=by simp[hk]
        have q:=g4 k _ 0 _ e1 rfl;have AG:=q.iI;rw[AG] at this;simp only[eS,Py,oe] at this;exact⟨ns[k],aA hk,this⟩
       have mS:∀j x,ns[j]? =some x→w.cell? ⟨b,0+j,none⟩=some (.int .u8 x):=by
        intro j x hj;obtain⟨n,iJ,ic⟩:=ey j (az.1 hj).1;rw[hj] at iJ;cases iJ;rw[eS];exact I.mem _ _ _ ic
       have hle:ns.length≤us.size:=by rw[z2];exact q2.1.1
       have nJ:=run_loadBytes (P:=P) (w:=w) ns b 0 .empty mS;have cM:(Builtin.unsafeString_ #[t,it] o.type #[.pointer (some ⟨b,0,none⟩),.int .i64 (ns.length:Int)]).run P w= .ok (.string ⟨(ns.map fun n=>UInt8.ofNat n.toNat).toArray⟩) (w.freeze ⟨b,0,none⟩ ns.length):=by
        have hl:ns.length≠0:=by simpa using aq
        have tr:w.shape? b=some (e',us.size):=by simp[World.shape?,z1,h2]
        have aao:=Lib.liesAt_bytes (P:=P) hc (us.size/P.cellsOf e') ns.length (by rw[hc];simpa using hle);have Dg:¬(9223372036854775807 :Int)<(ns.length:Int):=by omega
        have aap:Builtin.unsafeString_ #[t,it] o.type #[.pointer (some ⟨b,0,none⟩),.int .i64 ns.length]=
            (do
             let n ←asInt (.int .i64 ns.length)
             if n<0 then runtimePanic (.error "unsafe.String: len out of range")
             if n>IntKind.i64.max then unsupported (.unsafePointer "String: a length above the largest int")
             if n=0 then pure (.string .empty)
             else if ←variablesAt ⟨b,0,none⟩ (←elemOf t) n.toNat then do
              let s ←loadBytes ⟨b,0,none⟩ .empty n.toNat
              freeze ⟨b,0,none⟩ n.toNat
              pure (.string s)
             else unsupported (.unsafePointer "String: not so many bytes at ptr")):=rfl
        rw[aap];have KG:IntKind.i64.max=9223372036854775807:=rfl;have aaq:¬(ns.length:Int)<0:=by omega
        simp[asInt,asIntOf,KG,Dg,aaq,hl,variablesAt,tr,elemOf,run_underlying hp,aao,nJ]
       obtain⟨F,J⟩:=I.freeze (b:=b) (n:=ns.length) (by simpa using lJ) z1 (I.iV tk row _ b cap h1 h5) (fun k hk=>by
        obtain⟨n,_,ic⟩:=ey k hk;rw[ic];simp) hle (fun k hk ei=>by
        by_cases iA:k<ns.length
        ·obtain⟨n,_,ic⟩:=ey k iA;exact .inr (by rw[ic];simp)
        ·rcases aak ei with h |⟨h,h'⟩ |h
         ·exact absurd h iA
         ·refine .inl ⟨?_,h'⟩;by_cases ah:ns.length<cap
          ·obtain⟨cur,Gn,c1,c2,c3,_⟩:=q2.2 ah;rw[z1] at c1;cases c1;have fQ:fr.1≤k:=by
            rcases iP k fr.1 with iK |iK
            ·exact absurd ⟨aV _,h⟩ (c2 fr.1 (by rw[h3];omega) (by omega))
            ·exact iK
           exact fQ
          ·omega
         ·omega)
       exact⟨_,_,γ,.inl (fin _ _ (by rw[cD,K4];simpa using cM)),.refl γ,F,J,.p _ _ (.str _)⟩
   ·cases he
  ·cases he
 ·cases he
theorem aar{t:TypeId}{ms:Array (String×TypeId)}(d:Nat)(ht:P.underlying t=some (.interface ms)):(Op.equalIn (d+1) t .nilIface .nilIface).run P w= .ok true w:=by simp[Op.equalIn,run_underlying ht]
theorem QW{t:TypeId}{ms:Array (String×TypeId)}(d:Nat)(ht:P.underlying t=some (.interface ms))(u:TypeId)(v:Value):(Op.equalIn (d+1) t (.iface u v) .nilIface).run P w= .ok false w:=by simp[Op.equalIn,run_underlying ht]
theorem aas(I:Inv G γ H w)(E:bh γ env a.tmps){op:BinOp}{t yt:TypeId}{x y:Operand}{x' y':aw}{ms:Array (String×TypeId)}{yc:Value}(ho:o.op= .binOp op t x y yt)(dF:op= .eql∨op= .neq)(K5:y= .const yc)(hx:aQ x=some x')(hy:aQ y=some y')
    (ht:P.underlying t=some (.interface ms)) {d:D} {H':Hp} (he:aN G env H (.eqk 4 (op== .neq) x' y')=some (d,H')):cA P G γ H w a o d H':=by
 have aJ:=bT E hx;have fy:=bT E hy;simp only[aN] at he;obtain⟨r,hd,hh⟩:=au.1 he;cases hh;have fin:∀u v,a.eval x=u→a.eval y=v→(match u with | .int _ _ | .float _ _ | .complex _ _ _ | .string _=>true |_=>false)=false→(∀cs,u≠.agg cs)→(Op.equal t u v).run P w= .ok r w→
     cA P G γ H w a o (.p (.bool (if op== .neq then !r else r))) H:=by
  intro u v hu hv h1 h2 h4;refine .same I (v:=.bool (if op== .neq then !r else r)) ?_ (.p _ _ (.bool _));have e:(eqGuard op t x y u v).run P w= .ok () w:=by
   by_cases hb:u= .nilIface∧v= .nilIface
   ·obtain⟨rfl,rfl⟩:=hb;rcases dF with rfl |rfl<;>simp[eqGuard,K5]
   ·exact GF (P:=P) (op:=op) (t:=t) (x:=x) (y:=y) (u:=u) (v:=v) hb (fun cs _ h=>h2 cs h.1) w
  have q:=KM dF h1 h4;simp[execOp,ho,hu,hv,e,q]
 simp only[qJ] at hd;split at hd
 ·rename_i e1 e2;cases hd;rw[e1] at aJ;rw[e2] at fy;have h1:a.eval x= .nilIface:=by have:=aJ.bY;generalize a.eval x=v at this;cases this;rfl
  have h2:a.eval y= .nilIface:=by have:=fy.bY;generalize a.eval y=v at this;cases this;rfl
  exact fin _ _ h1 h2 rfl (by simp) (by rw[th];exact aar _ ht)
 ·rename_i e1 e2;cases hd;rw[e1] at aJ;rw[e2] at fy;have h1:∃t v,a.eval x= .iface t v:=by have:=aJ.bY;generalize a.eval x=v at this;cases this;exact⟨_,_,rfl⟩
  have h2:a.eval y= .nilIface:=by have:=fy.bY;generalize a.eval y=v at this;cases this;rfl
  obtain⟨t',v',h1⟩:=h1;exact fin _ _ h1 h2 rfl (by simp) (by rw[th];exact QW _ ht _ _)
 ·rename_i e1 e2;cases hd;rw[e1] at aJ;rw[e2] at fy;have h1:∃t v,a.eval x= .iface t v:=by generalize a.eval x=v at aJ;cases aJ;exact⟨_,_,rfl⟩
  have h2:a.eval y= .nilIface:=by have:=fy.bY;generalize a.eval y=v at this;cases this;rfl
  obtain⟨t',v',h1⟩:=h1;exact fin _ _ h1 h2 rfl (by simp) (by rw[th];exact QW _ ht _ _)
 ·cases hd
theorem QX(I:Inv G γ H w){T:Nat}{v:Value}{cs:List D}(q:cy γ v.cells cs){d:D}{H':Hp}(he:CW T cs H=some (d,H')):
    ∃γ',γ.le γ'∧Frame γ H w γ' H' (w.alloc (.cells v.cells T))∧Inv G γ' H' (w.alloc (.cells v.cells T))∧aL γ' (.pointer (some ⟨w.heap.size,0,none⟩)) d:=by
 unfold CW at he;split at he
 ·rename_i r;split at he
  ·rename_i eQ;cases he;have eQ:∀c∈r,c.one=true:=by simpa[gI] using eQ
   obtain⟨γ',a1,a2,_,a3,a4⟩:=I.Ar (vs:=v.cells) (cs:=.fresh T (r.length+1) H.bx.length::r) T (fun γ' hle hb ht=>by
    refine⟨Nat.le_of_eq q.1.symm,fun i d hd=>?_⟩
    match i with
    | 0=>
     simp only[ew,bI] at hd;subst hd;have:=(q.2 0 _ rfl).bY.C9;rw[this];have hl:v.cells.size=r.length+1:=by simpa using q.1
     rw[hl] at ht;exact .fresh T _ _ _ hb ht
    |i+1=>exact(q.2 (i+1) d hd).mono hle) (fun c hc=>by
    rcases cN.1 hc with rfl |h
    ·rfl
    ·exact eQ c h)
   exact⟨γ',a1,a3,a4,.box _ _ _ a2⟩
  ·cases he
 ·cases he
theorem aat(I:Inv G γ H w){e:TypeId}{z:PD}(ho:o.op= .alloc e)(hz:zeroOf P e=some z){d:D}{H':Hp}(he:aN G env H (.xT e z.cells)=some (d,H')):cA P G γ H w a o d H':=by
 simp only[aN] at he;obtain⟨v,q1,q2⟩:=wm hz w;obtain⟨r1,r2⟩:=(s7 γ.mem q2).cells;obtain⟨γ',a1,a2,a3,a4⟩:=QX I (Dd r1 fun i d hd=>(r2 i d hd).1) he;exact⟨.pointer (some ⟨w.heap.size,0,none⟩),_,γ',.inl (by simp[execOp,ho,Instr.alloc,q1,newVar,newRow]),a1,a2,a3,a4⟩
theorem aau{γ:Gh}{v:Value}{d:D}(r:aL γ v d)(h:(match d.cells with | .p .iQ::q=>q.all D.one |_=>false)=true):cy γ v.cells d.cells:=by
 split at h
 ·rename_i q hq;have :d.cells.all D.one=true:=by rw[hq];simpa[D.one,PD.one] using h
  exact(r.cells this).1
 ·cases h
theorem aav(I:Inv G γ H w)(E:bh γ env a.tmps){e:TypeId}{x:Operand}{y:aw}(ho:o.op= .box e x)(hx:aQ x=some y){d:D}{H':Hp}(he:aN G env H (.boxB e y)=some (d,H')):cA P G γ H w a o d H':=by
 have aJ:=bT E hx;simp only[aN] at he;have hc:(match(y.ev env).cells with | .p .iQ::q=>q.all D.one |_=>false)=true:=by
  unfold CW at he;split at he
  ·rename_i r hr;split at he
   ·rename_i h;rw[hr];exact h
   ·cases he
  ·cases he
 obtain⟨γ',a1,a2,a3,a4⟩:=QX I (aau aJ hc) he;exact⟨.pointer (some ⟨w.heap.size,0,none⟩),_,γ',.inl (by simp[execOp,ho,Instr.box,newVar,newRow]),a1,a2,a3,a4⟩
theorem QY{m:Mem}{sz:Nat}{cs:Array Value}:∀(es:List PD) (base:Nat),(∀e∈es,e.cells.length=sz)→(∀(i:Nat) e (j:Nat) c,es[i]? =some e→e.cells[j]? =some c→aZ m (cs.getD ((base+i)*sz+j) undef) c)→
    ∀(k:Nat) c,(es.flatMap PD.cells)[k]? =some c→aZ m (cs.getD (base*sz+k) undef) c
 |[],base,_,_,k,c,h=>by simp at h
 |e::es,base,h1,h2,k,c,h=>by
  rw[ub] at h;have he:=h1 e (by simp);by_cases hk:k<e.cells.length
  ·rw[cH hk] at h;have:=h2 0 e k c rfl h;simpa using this
  ·rw[eL (by omega)] at h;have:=QY es (base+1) (fun e he=>h1 e (by simp[he])) (fun i e j c a b=>by
    have:=h2 (i+1) e j c (by simpa using a) b;have e1:base+1+i=base+(i+1):=by omega
    rw[e1];exact this) _ c h
   have e2:(base+1)*sz+(k-e.cells.length)=base*sz+k:=by rw[he] at hk⊢;rw[fM];omega
   rw[e2] at this;exact this
theorem wA{sz:Nat}:∀(es:List PD),(∀e∈es,e.cells.length=sz)→(es.flatMap PD.cells).length=es.length*sz
 |[],_=>by simp
 |e::es,h=>by
  rw[ub,iq,wA es (fun e he=>h e (by simp[he])),h e (by simp),dZ,fM];omega
theorem gD.flat{m:Mem}{sz:Nat}{cs:Array Value}{es:List PD}(r:gD m sz cs es){tail:Array Value}(γ:Gh)(hm:γ.mem=m):eT γ (cs++tail) ((es.flatMap PD.cells).map .p)∧∀c∈(es.flatMap PD.cells).map D.p,c.one=true:=by
 subst hm;obtain⟨r1,r2,r3⟩:=r;have hl:=wA es (fun e he=>(r2 e he).1);refine⟨⟨by simp[hl,r1],fun k d hd=>?_⟩,fun c hc=>?_⟩
 ·simp only[cP,au] at hd;obtain⟨c,hc,rfl⟩:=hd;have:=QY (cs:=cs) es 0 (fun e he=>(r2 e he).1) (fun i e j c a b=>by rw[eS];exact r3 i e j c a b) k c hc;rw[amx,eS] at this;have hk:k<cs.size:=by rw[r1,←hl];exact(az.1 hc).1
  have ee:(cs++tail).getD k undef=cs.getD k undef:=by simp[bN,Ah,hk]
  rw[ee];exact .p _ _ this
 ·obtain⟨x,hx,rfl⟩:=dz.1 hc;obtain⟨e,he,hx⟩:=FU.1 hx;exact(r2 e he).2 x hx
theorem aaw(I:Inv G γ H w)(E:bh γ env a.tmps){t u e:TypeId}{s x:Operand}{s' x':aw}{i:TypeInfo}{z:Value}{du:TypeDesc}(ho:o.op= .call {callee:=.builtin .append,args:=#[s,x],argTypes:=#[t,u]})
    (ht:P.underlying t=some (.slice e)) (hu:P.underlying u=some du) (gF:(∃e',du= .slice e')∨du= .string) (hi:P.info? e=some i) (hz:i.zero=some z) (_:z.cells.size=i.size) (iB:0<i.size)
    (hs:aQ s=some s') (hx:aQ x=some x') {d:D} {H':Hp} (he:aN G env H (.appendm e i.size i.bytes s' x')=some (d,H')):cA P G γ H w a o d H':=by
 have eH:=bT E hs;have aJ:=bT E hx;simp only[aN] at he;split at he
 ·rename_i xs gh;obtain⟨⟨news,S⟩,_⟩:=QO (P:=P) I iB aJ gh;have fin:∀v' w',(Builtin.append_ #[t,u] o.type #[a.eval s,a.eval x]).run P w= .ok v' w'→(execOp a.eval o).run P w= .ok (.value v') w':=by
   intro v' w' h;simp[execOp,ho,resolve,invoke,builtin,h]
  have core:∀(es:List PD) (base:Option Addr) (cap:Nat),a.eval s= .slice base es.length cap→es.length≤cap→cap≤es.length→aZ γ.mem (.slice base es.length cap) (.slice i.size es)→
      (if xs.isEmpty then some (s'.ev env,H) else if roomy (es.length+xs.length) i.bytes then some (D.bu H.bx.length 0 (es.length+xs.length) none i.size,{H with bx:=H.bx++[((es++xs).flatMap PD.cells).map .p]}) else none)=some (d,H')→cA P G γ H w a o d H':=by
   intro es base cap hv h1 h2 gY he;split at he
   ·rename_i h0;cases he;have h0:xs=[]:=by simpa using h0
    have cM:=KZ (ty:=o.type) ht hu gF hi S h0 base es.length cap h1;exact .same I (fin _ _ (by rw[hv];exact cM)) (hv▸eH)
   ·rename_i h0;have h0:xs≠[]:=by simpa using h0
    have lJ:0<xs.length:=xG.2 h0;split at he
    ·rename_i gQ;cases he;have AF:es.length+xs.length≤140737488355328∧(es.length+xs.length)*i.bytes≤140737488355328:=by simpa[roomy] using gQ
     obtain⟨gZ,So⟩:=GM (P:=P) I iB gY;have cM:=QP (ty:=o.type) ht hu gF hi hz S base es.length cap gZ (fun w' hw'=>So.cells w' hw') (by omega) (by omega) AF.2;obtain⟨q1,q2⟩:=gD.flat (So.rep.append S.rep) (tail:=Builtin.zeroCells z.cells (grownCap w (es.length+xs.length) cap e-(es.length+xs.length))) γ rfl;obtain⟨γ',a1,a2,a3,a4⟩:=I.drew.KD e q1 q2;have kZ:=grownCap_ge w (es.length+xs.length) cap e;exact⟨_,_,γ',.inl (fin _ _ (by rw[hv];exact cM)),a1,(Frame.drew γ H w).trans rfl a3,a4,.bu _ _ _ _ _ _ _ a2 kZ (fun k hk=>by cases hk)⟩
    ·cases he
  unfold P2 at he;split at he
  ·rename_i es dC;split at dC
   ·rename_i hn;cases dC;rw[hn] at eH;have hv:=eH.bY.qg;refine core [] none 0 hv (aV _) (aV _) (.kD _ _ _) ?_;rw[hn] at he⊢;simpa using he
   ·rename_i bF hn;split at dC
    ·rename_i aS;subst aS;cases dC;have oF:=eH;rw[hn] at oF;generalize cD:a.eval s=v at oF;cases oF with
     |ff ad _=>
      refine core [] ad 0 cD (aV _) (aV _) (.kD _ _ _) ?_;simpa using he
    ·cases dC
   ·rename_i e' bF iz hn;split at dC
    ·rename_i aS;subst aS;cases dC;have oF:=eH;rw[hn] at oF;generalize cD:a.eval s=v at oF;cases oF with
     |cI b n _ _ _ hb dP hlen gY=>
      subst hlen;exact core es _ _ cD (aV _) (aV _) gY he
    ·cases dC
   ·cases dC
  ·cases he
 ·cases he
theorem Inv.K6(I:Inv G γ H w){i b:Nat}{cs:List D}(hb:γ.boxes[i]? =some b)(hc:H.bx[i]? =some cs)(hn:cs≠[]){x:Nat×Nat}(ht:γ.br b=some x):
    Frame γ H w γ {H with bx:=H.bx.set i []} w∧Inv G γ {H with bx:=H.bx.set i []} w:=by
 have hi:i<H.bx.length:=(az.1 hc).1;have dK:∀t c,cY γ {H with bx:=H.bx.set i []} t c→cY γ H t c:=fun t c h=>cY.congr (fun _ _ h=>h) (fun _ _ h=>h) h;refine⟨⟨rfl,rfl,rfl,aV _,fun _ _ _=>⟨fun _=>rfl,.refl _ _⟩,fun _ _ _ _=>rfl,fun _ h=>.inl (Lv.set hc hn h),fun t b h=>.inl (dK t b h),fun _ h=>.inl h⟩,I.size,I.br,I.iV,I.mem,I.jQ,by simp[I.cT],I.Gs hc hn,?_,fun c o h=>I.iw c o (Lv.set hc hn h),?_,I.fY,I.row,I.jR,fun t t' b h h'=>I.free t t' b (dK t b h) (dK t' b h')⟩
 ·intro j c bL hj ak;have ak:(H.bx.set i [])[j]? =some bL:=ak;by_cases cQ:i=j
  ·subst cQ;rw[hb] at hj;cases hj;rw[j9 hi] at ak;cases ak;obtain⟨vs,fr,q1,_⟩:=I.br b x.1 x.2 ht;exact⟨vs,x.1/2,fr,by rw[iU rfl];exact q1,⟨b9 _,fun i d hd=>by simp at hd⟩,fun _ c hc=>by simp at hc,fun h=>(h rfl).elim⟩
  ·rw[dH cQ] at ak;exact I.box j c bL hj ak
 ·intro j c hj ak;have ak:(H.bx.set i [])[j]? =some []:=ak;by_cases cQ:i=j
  ·subst cQ;rw[hb] at hj;cases hj;exact⟨x,ht⟩
  ·rw[dH cQ] at ak;exact I.jE j c hj ak
theorem Inv.K7(I:Inv G γ H w){i b:Nat}{cs ds:List D}(hb:γ.boxes[i]? =some b)(hc:H.bx[i]? =some cs)(hn:cs≠[])(_:aU cs=false){vs cv:Array Value}{T:Nat}{fr:Nat×Nat}(hw:w.heap[b]? =some (.cells vs T fr))(iy:clear fr 0 vs.size)
    (aS:cv.size=vs.size) {m T2:Nat} (ht:γ.br b=some (T2,m)) (hr:eT γ cv (ds)) (h1:∀c∈ds,c.one=true):
    γ.le {γ with boxes:=γ.boxes++[b]}∧Frame γ H w {γ with boxes:=γ.boxes++[b]} {H with bx:=H.bx.set i []++[ds]} (w.setRow b cv)∧Inv G {γ with boxes:=γ.boxes++[b]} {H with bx:=H.bx.set i []++[ds]} (w.setRow b cv):=by
 have hi:i<H.bx.length:=(az.1 hc).1;have ey:b∈γ.boxes:=bS hb;have kF:Lv γ H b:=⟨i,cs,hb,hc,hn⟩;have hle:γ.le {γ with boxes:=γ.boxes++[b]}:=⟨rfl,fun _ _ h=>h,fun _ _ _ h=>h,fun j c h=>by
  have hj:j<γ.boxes.length:=(az.1 h).1;show(γ.boxes++[b])[j]? =some c;rw[cH hj];exact h,fun t r h=>⟨r,h,rfl,rfl,fun _ _ h=>h⟩⟩
 have ym:γ.boxes.length=({H with bx:=H.bx.set i []}:Hp).bx.length:=by simp[I.cT]
 have QZ:∀c,Lv {γ with boxes:=γ.boxes++[b]} {H with bx:=H.bx.set i []++[ds]} c→Lv γ H c:=fun c h=>by
  rcases Lv.push (γ:=γ) (H:={H with bx:=H.bx.set i []}) ym rfl rfl h with h |⟨rfl,_⟩
  ·exact Lv.set hc hn h
  ·exact kF
 have eU:¬Lv γ {H with bx:=H.bx.set i []} b:=fun h=>by
  obtain⟨j,c,a1,a2,a3⟩:=h;have a2:(H.bx.set i [])[j]? =some c:=a2;by_cases cQ:i=j
  ·subst cQ;rw[j9 hi] at a2;exact a3 (oi a2).symm
  ·rw[dH cQ] at a2;exact cQ (I.nodup i j b cs c hb a1 hc a2 hn a3)
 have I1:=(I.K6 hb hc hn ht).2;have dK:∀t c,cY {γ with boxes:=γ.boxes++[b]} {H with bx:=H.bx.set i []++[ds]} t c→cY γ H t c:=fun t c h=>cY.congr (fun _ _ h=>h) (fun _ _ h=>h) h;have lH:∀c,c≠b→(w.setRow b cv).heap[c]? =w.heap[c]?:=fun c h=>setRow_other w b c _ h;have mT:=setRow_heap w b vs cv T fr hw;refine⟨hle,⟨rfl,rfl,rfl,by simp[World.setRow],fun c _ ho=>by rw[lH c (fun e=>ho (.inl (e▸kF)))];exact⟨fun _=>rfl,.refl _ _⟩,fun _ _ _ _=>rfl,fun c h=>.inl (QZ c h),fun t c h=>.inl (dK t c h),fun c h=>by
  rcases cW.1 (show c∈γ.boxes++[b] from h) with h |h
  ·exact .inl h
  ·simp at h;subst h;exact .inl ey⟩,?_⟩
 constructor
 ·have:=I.size;simpa[World.setRow] using this
 ·intro c T' n kX;obtain⟨x7,ct,h2,h3⟩:=I.br c T' n kX;by_cases uy:c=b
  ·subst uy;rw[hw] at h2;cases h2;exact⟨_,_,mT,aS.trans h3.1,h3.2⟩
  ·exact⟨x7,ct,(lH c uy).trans h2,h3⟩
 ·exact I.iV
 ·intro c o v h;have aq:c≠b:=fun e=>by subst e;rw[I.iw c o kF] at h;cases h
  rw[ux (w:=w) (lH c aq)];exact I.mem c o v h
 ·exact I.jQ
 ·simp[I.cT]
 ·exact I1.Gq eU rfl rfl
 ·intro j c bL hj ak;rcases sZ ym hj ak with⟨a1,a2⟩ |⟨_,rfl,rfl⟩
  ·obtain⟨us,T',ct,q1,q2,q3,q4⟩:=I1.box j c bL a1 a2;by_cases he:c=b
   ·subst he;have h0:bL=[]:=qD fun h0=>eU ⟨j,bL,a1,a2,h0⟩;subst h0;exact⟨_,_,_,by rw[iU rfl];exact mT,⟨b9 _,fun i d hd=>by simp at hd⟩,fun _ c hc=>by simp at hc,fun h=>(h rfl).elim⟩
   ·exact⟨us,T',ct,by rw[lH c he];exact q1,q2.mono hle,q3,q4⟩
  ·exact⟨cv,T,fr,by rw[iU (C0 h1)];exact mT,hr.mono hle,fun _=>h1,fun _=>by rw[aS];exact iy⟩
 ·exact fun c o h=>I.iw c o (QZ c h)
 ·intro j c hj ak;rcases sZ ym hj ak with⟨a1,a2⟩ |⟨_,rfl,_⟩
  ·exact I1.jE j c a1 a2
  ·exact⟨_,ht⟩
 ·exact I.fY
 ·intro t row f h1 h2;obtain⟨r,a1,a2⟩:=I.row t row f h1 h2;refine⟨r,a1,?_⟩;refine a2.keep (fun _ _ h=>h) (fun c cap hr ah=>?_) (fun _ _ _ _ _=>rfl) (fun c cap hr ah h h'=>?_)
  ·have aq:c≠b:=fun e=>by
    subst e;subst hr;obtain⟨cur,_,_,_,_,_,_,fZ⟩:=a2.2 ah;exact fZ ey
   exact lH c aq
  ·have h':c∈γ.boxes++[b]:=h';rcases cW.1 h' with h' |h'
   ·exact h h'
   ·simp at h';subst h';exact h ey
 ·exact I.jR
 ·intro t t' c h h';exact I.free t t' c (dK t c h) (dK t' c h')
theorem eT.aax{γ:Gh}{u v:Array Value}{cs ds:List D}(hu:u.size=cs.length)(r:eT γ u cs)(q:eT γ v ds):eT γ (u++v) (cs++ds):=by
 refine⟨by have:=q.1;simp;omega,fun i d hd=>?_⟩;by_cases hi:i<cs.length
 ·rw[cH hi] at hd;have:=r.2 i d hd;have ee:(u++v).getD i undef=u.getD i undef:=by simp[bN,Ah,hu,hi]
  rw[ee];exact this
 ·rw[eL (by omega)] at hd;have:=q.2 _ d hd;have ee:(u++v).getD i undef=v.getD (i-cs.length) undef:=by simp[bN,Ah,hu,hi]
  rw[ee];exact this
structure Dh (P:Program) (γ:Gh) (w:World) (sz:Nat) (x:Value) (m:Nat) (ds:List D) (news:Array Value):Prop where
 len:∀w',(Builtin.lenOf x).run P w'= .ok m w'
 cells:∀w',(∀ad,w'.cell? ad=w.cell? ad)→(Builtin.firstCells sz m x).run P w'= .ok news w'
 rep:cy γ news ds
 one:∀c∈ds,c.one=true
 size:news.size=m*sz
theorem Dh.aay{γ:Gh}{w:World}{sz:Nat}{x:Value}{m:Nat}{ds:List D}{news:Array Value}(S:Dh P γ w sz x m ds news):∀v∈news.toList,v.oneCell'=true:=by
 intro v hv;obtain⟨k,hk⟩:=eC hv;have mR:news[k]? =some v:=by simpa using hk
 have ah:k<ds.length:=by rw[←S.rep.1];exact(gz.1 mR).1
 have hd:=aA ah;have q:=S.rep.2 k _ hd;have :news.getD k undef=v:=by simp[bN,mR]
 rw[this] at q;exact q.Qh (S.one _ (bS hd))
theorem K8(I:Inv G γ H w){i off n sz b c:Nat}(hb:γ.boxes[i]? =some b){cs:List D}(ak:H.bx[i]? =some cs)(hm:aU cs=false)(fx:off+n*sz≤cs.length):
    ∃news,Dh P γ w sz (.slice (some ⟨b,off,none⟩) n c) n (sub cs off (off+n*sz)) news:=by
 obtain⟨vs,T,fr,q1,q2,q3,_⟩:=I.box i b cs hb ak;rw[iU hm] at q1;have q3:=q3 hm;have dk:(sub cs off (off+n*sz)).length=n*sz:=by rw[wo _ _ _ fx];omega
 refine⟨((ku (n*sz)).map fun k=>vs.getD (off+k) undef).toArray,⟨fun w'=>by simp[Builtin.lenOf],fun w' hw'=>?_,⟨by simp[dk],fun k d hd=>?_⟩,fun c hc=>q3 c (AD hc),by simp⟩⟩
 ·refine run_firstCells_some (P:=P) w' sz n _ _ _ _ (by simp) (fun j v hj=>?_);have ah:j<n*sz:=by have:=(az.1 hj).1;simpa using this
  have hv:vs.getD (off+j) undef=v:=by simpa[ah] using hj
  have lY:off+j<vs.size:=by have:=q2.1;omega
  rw[Addr.add_lit,hw',←hv];simp[World.cell?,q1,lY,bN]
 ·have ah:k<n*sz:=by rw[←dk];exact(az.1 hd).1
  rw[pq,if_pos (by omega)] at hd;have:=q2.2 _ d hd;have e1:(((ku (n*sz)).map fun k=>vs.getD (off+k) undef).toArray).getD k undef=vs.getD (off+k) undef:=by
   simp[bN,ah]
  rw[e1];exact this
theorem cy.Q0{γ:Gh}{vs:Array Value}{ds:List D}(h:eT γ vs ds)(he:vs.size=ds.length):cy γ vs ds:=⟨he,h.2⟩
theorem aaz(I:Inv G γ H w){sz:Nat}(hs:0<sz){v:Value}{d:D}(r:aL γ v d){m:Nat}{ds:List D}(h:ow H sz d=some (m,ds)):∃news,Dh P γ w sz v m ds news:=by
 unfold ow at h;split at h
 ·rename_i i off n cap bF;split at h
  ·rename_i aS;subst aS;split at h
   ·rename_i cs ak;split at h
    ·rename_i hc;cases h;cases r with
     |bu _ _ _ _ _ b c hb _ _=>exact K8 I hb ak hc.1 hc.2
    ·cases h
   ·cases h
  ·cases h
 ·rename_i i e n bF;split at h
  ·rename_i aS;subst aS;split at h
   ·rename_i cs ak;split at h
    ·rename_i hc;cases h;cases r with
     |aB _ _ _ _ b c hb _ _ _ _=>exact K8 I hb ak hc.1 hc.2
    ·cases h
   ·cases h
  ·cases h
 ·obtain⟨es,dC,heq⟩:=au.1 h;cases heq;obtain⟨⟨news,S⟩,_⟩:=QM (P:=P) I hs r dC;obtain⟨q1,q2⟩:=gD.flat S.rep (tail:=#[]) γ rfl;have aS:=S.rep.1;refine⟨news,⟨S.len,S.cells,cy.Q0 (by simpa using q1) ?_,q2,aS⟩⟩;rw[cx,wA es fun e he=>(S.rep.2.1 e he).1,aS]
section
variable {t u ty e : TypeId} {i : TypeInfo} {z : Value} {du : TypeDesc} (ht : P.underlying t = some (.slice e)) (hu : P.underlying u = some du) (gF : (∃ e', du = .slice e') ∨ du = .string) (hi : P.info? e = some i) (hz : i.zero = some z)
 {x:Value} {m:Nat} {ds:List D} {news:Array Value} (S:Dh P γ w i.size x m ds news)
include ht hu gF hi S
theorem K9(h0:m=0)(base:Option Addr)(n cap:Nat)(hc:n≤cap):(Builtin.append_ #[t,u] ty #[.slice base n cap,x]).run P w= .ok (.slice base n cap) w:=by
 subst h0;have hn:news= #[]:=Pz (by have:=S.size;omega);subst hn;have hl:=S.len w;have ak:=S.cells w (fun _=>rfl);rcases gF with⟨e',rfl⟩ |rfl<;>cases base<;>simp[Builtin.append_,run_underlying ht,run_underlying hu,sizeOf,typeInfo,hi,hl,hc,ak,storeCells]
theorem Q1(g off n cap T:Nat)(cur:Array Value)(fr:Nat×Nat)(hg:w.heap[g]? =some (.cells cur T fr))(x9:clear fr (off+n*i.size) cur.size)(gQ:n+m≤cap)(fx:off+n*i.size+news.size≤cur.size):
    (Builtin.append_ #[t,u] ty #[.slice (some ⟨g,off,none⟩) n cap,x]).run P w=
     .ok (.slice (some ⟨g,off,none⟩) (n+m) cap) (w.setRow g (cur.toList.take (off+n*i.size)++news.toList++cur.toList.drop (off+n*i.size+news.size)).toArray):=by
 have hl:=S.len w;have ak:=S.cells w (fun _=>rfl);have cC:=GI (P:=P) g (off+n*i.size) T fr news.toList 0 cur w hg (by simpa using x9) (by simpa using fx) S.aay;simp only[oe,qE] at cC;rcases gF with⟨e',rfl⟩ |rfl<;>simp[Builtin.append_,run_underlying ht,run_underlying hu,sizeOf,typeInfo,hi,hl,gQ,ak,Addr.add_lit,cC]
include hz
theorem aaA(base:Option Addr)(n cap:Nat)(gZ:Array Value)(hold:∀w',(∀ad,w'.cell? ad=w.cell? ad)→(Builtin.firstCells i.size n (.slice base n cap)).run P w'= .ok gZ w')
    (eU:cap<n+m) (GO:((n+m:Nat):Int)≤9223372036854775807) (hb:(n+m)*i.bytes≤140737488355328):
    (Builtin.append_ #[t,u] ty #[.slice base n cap,x]).run P w=
     .ok (.slice (some ⟨w.heap.size,0,none⟩) (n+m) (grownCap w (n+m) cap e))
      (w.drew.alloc (.cells (gZ++news++Builtin.zeroCells z.cells (grownCap w (n+m) cap e-(n+m))) e)):=by
 have hl:=S.len w;have ak:=S.cells w.drew (fun _=>rfl);have uz:=hold w.drew (fun _=>rfl);have hn:¬(n+m≤cap):=by omega
 have Dg:¬(9223372036854775807<((n:Int)+(m:Int))):=by omega
 have K0:¬(281474976710656<Builtin.nextslicecap (n+m) cap*i.bytes):=by have:=growslice_fits eU hb;omega
 rcases gF with⟨e',rfl⟩ |rfl<;>simp[Builtin.append_,run_underlying ht,run_underlying hu,sizeOf,typeInfo,zeroValue,hi,hz,hl,hn,Dg,K0,Question.forced,uz,ak,newRow,grownCap]
end
theorem Q2{γ:Gh}{u news tail:Array Value}{cs ds:List D}(hu:u.size=cs.length)(r:eT γ u cs)(q:cy γ news ds):eT γ (u++(news++tail)) (cs++ds):=by
 refine eT.aax hu r ⟨by have:=q.1;simp;omega,fun k d hd=>?_⟩;have hk:k<news.size:=by rw[q.1];exact(az.1 hd).1
 have ee:(news++tail).getD k undef=news.getD k undef:=by simp[bN,Ah,hk]
 rw[ee];exact q.2 k d hd
theorem aaB{γ:Gh}{vs:Array Value}{cs:List D}(q:eT γ vs cs)(k:Nat)(hk:k≤cs.length):eT γ (vs.toList.take k).toArray (cs.take k):=by
 have:=q.1;refine⟨by simp;omega,fun j d hd=>?_⟩;rw[j7] at hd;split at hd
 ·rename_i hj;have ee:(vs.toList.take k).toArray.getD j undef=vs.getD j undef:=by
   simp only[bN,YD,j7,if_pos hj];simp
  rw[ee];exact q.2 j d hd
 ·cases hd
theorem aaC(I:Inv G γ H w)(E:bh γ env a.tmps){t u e:TypeId}{s x:Operand}{s' x':aw}{i:TypeInfo}{z:Value}{du:TypeDesc}(ho:o.op= .call {callee:=.builtin .append,args:=#[s,x],argTypes:=#[t,u]})
    (ht:P.underlying t=some (.slice e)) (hu:P.underlying u=some du) (gF:(∃e',du= .slice e')∨du= .string) (hi:P.info? e=some i) (hz:i.zero=some z) (wu:z.cells.size=i.size) (iB:0<i.size)
    (hs:aQ s=some s') (hx:aQ x=some x') {d:D} {H':Hp} (he:aN G env H (.appendg e i.size i.bytes s' x')=some (d,H')):cA P G γ H w a o d H':=by
 have eH:=bT E hs;have aJ:=bT E hx;simp only[aN] at he;split at he
 ·rename_i m ds gh;obtain⟨news,S⟩:=aaz (P:=P) I iB aJ gh;have fin:∀v' w',(Builtin.append_ #[t,u] o.type #[a.eval s,a.eval x]).run P w= .ok v' w'→(execOp a.eval o).run P w= .ok (.value v') w':=by
   intro v' w' h;simp[execOp,ho,resolve,invoke,builtin,h]
  have uE:=S.size;have qV:ds.length=m*i.size:=by rw[←S.rep.1,uE]
  have fresh:∀(γ1:Gh) (H1:Hp) (base:Option Addr) (n cap:Nat) (gZ:Array Value) (cs:List D),γ.le γ1→Frame γ H w γ1 H1 w→Inv G γ1 H1 w→a.eval s= .slice base n cap→cap<n+m→roomy (n+m) i.bytes=true→
      (∀w',(∀ad,w'.cell? ad=w.cell? ad)→(Builtin.firstCells i.size n (.slice base n cap)).run P w'= .ok gZ w')→gZ.size=cs.length→gZ.size=n*i.size→eT γ1 gZ cs→(∀c∈cs,c.one=true)→
      cA P G γ H w a o (.aB H1.bx.length e (n+m) i.size) {H1 with bx:=H1.bx++[cs++ds]}:=by
   intro γ1 H1 base n cap gZ cs L1 F1 I1 hv eU gQ hold jT uz gY dE;have AF:n+m≤140737488355328∧(n+m)*i.bytes≤140737488355328:=by simpa[roomy] using gQ
   have ke:n+m≤maxLen:=by simp only[maxLen];omega
   have cM:=aaA (ty:=o.type) ht hu gF hi hz S base n cap gZ hold eU (by omega) AF.2;have kZ:=grownCap_ge w (n+m) cap e;have hgm:=grownCap_le_maxLen w (n+m) cap e ke;have Au:(gZ++news++Builtin.zeroCells z.cells (grownCap w (n+m) cap e-(n+m))).size=grownCap w (n+m) cap e*i.size:=by
    simp only[Px,size_zeroCells,wu,uz,uE,←fM];congr 1;omega
   have aaE:eT γ1 (gZ++news++Builtin.zeroCells z.cells (grownCap w (n+m) cap e-(n+m))) (cs++ds):=by
    rw[Array.append_assoc];exact Q2 jT gY (S.rep.mono L1)
   obtain⟨γ',a1,a2,a5,a3,a4⟩:=I1.drew.Ar e (fun _ h _ _=>aaE.mono h) (fun c hc=>by
    rcases cW.1 hc with h |h
    ·exact dE c h
    ·exact S.one c h)
   rw[Au] at a5;exact⟨_,_,γ',.inl (fin _ _ (by rw[hv];exact cM)),L1.trans a1,((F1.trans L1.base (Frame.drew γ1 H1 w)).trans L1.base a3),a4,.aB _ _ _ _ _ _ (by simpa using a2) kZ hgm (k:=0) (by decide) a5⟩
  have Q3:∀(k b off n cap:Nat) (cs:List D) (d':D),a.eval s= .slice (some ⟨b,off,none⟩) n cap→n+m≤cap→0<m→γ.boxes[k]? =some b→H.bx[k]? =some cs→aU cs=false→off+(n+m)*i.size≤cs.length→
      (aL γ (.slice (some ⟨b,off,none⟩) (n+m) cap) d')→
      cA P G γ H w a o d' {H with bx:=H.bx.set k (aE cs (off+n*i.size) ds)}:=by
   intro k b off n cap cs d' hv gQ jF hb ak oA fx bH;obtain⟨vs,T,fr,q1,q2,q3,q4⟩:=I.box k b cs hb ak;rw[iU oA] at q1;have q3:=q3 oA;have lJ:0<(n+m)*i.size:=Nat.mul_pos (by omega) iB;have yn:cs≠[]:=fun h=>by subst h;simp at fx;omega
   have q4:=q4 yn;have aaF:off+n*i.size+news.size≤cs.length:=by
    have e1:off+n*i.size+m*i.size=off+(n+m)*i.size:=by rw[fM];omega
    omega
   have cM:=Q1 (ty:=o.type) ht hu gF hi S b off n cap T vs fr q1 (fun k hk bW=>q4 k (b9 _) bW) gQ (by have:=q2.1;omega);obtain⟨F,J⟩:=I.store hb ak (us:=news.toList) (ds:=ds) (by simpa using S.rep) S.one (off:=off+n*i.size) (by rw[qV,←uE];exact aaF) q1 q4 q2 oA yn;exact⟨_,_,γ,.inl (fin _ _ (by rw[hv];exact cM)),.refl γ,by simpa using F,by simpa using J,bH⟩
  unfold gL at he;split at he
  ·rename_i k e' n bF hn;split at he
   ·rename_i La;obtain⟨rfl,rfl⟩:=La;have oF:=eH;rw[hn] at oF;generalize hv:a.eval s=v at oF;cases oF with
    |aB _ _ _ _ b c hb eh gC bW dP=>
     split at he
     ·rename_i jF;cases he;exact .same I (fin _ _ (by rw[hv];exact K9 (ty:=o.type) ht hu gF hi S jF _ n c eh)) (by rw[hv] at eH;exact eH)
     ·rename_i jF;split at he
      ·rename_i cs ak;split at he
       ·rename_i kg;obtain⟨oA,hlen,yn⟩:=kg;obtain⟨vs,T,fr,q1,q2,q3,q4⟩:=I.box k b cs hb ak;rw[iU oA] at q1;have q3:=q3 oA;have q4:=q4 yn;obtain⟨cv,ct,z1,z2,z3⟩:=I.br b _ _ dP;rw[amv (by decide:0<2),amw (by omega),oe] at z1;rw[q1] at z1;cases z1;split at he
        ·rename_i fx;cases he;have gQ:n+m≤c:=by
          have h1:(n+m)*i.size≤c*i.size:=by have:=q2.1;omega
          exact Nat.le_of_mul_le_mul_right h1 iB
         have:=Q3 k b 0 n c cs (.aB k e' (n+m) i.size) hv gQ (by omega) hb ak oA (by omega) (.aB _ _ _ _ b c hb gQ gC bW dP);simpa using this
        ·rename_i fx;split at he
         ·rename_i gQ;cases he;have Q4:=aaB q2 (n*i.size) hlen;have jT:(vs.toList.take (n*i.size)).toArray.size=n*i.size:=by have:=q2.1;simp;omega
          have kG:(cs.take (n*i.size)).length=n*i.size:=by simp;omega
          by_cases uG:n+m≤c
          ·-- in place after all
           have QS:n*i.size+news.size≤vs.size:=by
            rw[uE,z2,←fM];exact kz _ uG
           have cM:=Q1 (ty:=o.type) ht hu gF hi S b 0 n c _ vs fr q1 (fun k hk bW=>q4 k (b9 _) bW) uG (by omega);simp only[eS] at cM;have wy:(vs.toList.take (n*i.size)++news.toList++vs.toList.drop (n*i.size+news.size)).toArray.size=vs.size:=by simp;omega
           have gY:eT γ (vs.toList.take (n*i.size)++news.toList++vs.toList.drop (n*i.size+news.size)).toArray (cs.take (n*i.size)++ds):=by
            have e1:(vs.toList.take (n*i.size)++news.toList++vs.toList.drop (n*i.size+news.size)).toArray=(vs.toList.take (n*i.size)).toArray++(news++(vs.toList.drop (n*i.size+news.size)).toArray):=by
             apply FT;simp
            rw[e1];exact Q2 (by rw[jT,kG]) Q4 S.rep
           obtain⟨g1,g2,g3⟩:=I.K7 hb ak yn oA q1 q4 wy dP gY (fun c hc=>by
            rcases cW.1 hc with h |h
            ·exact q3 c (j8 h)
            ·exact S.one c h)
           refine⟨_,_,_,.inl (fin _ _ (by rw[hv];exact cM)),g1,g2,g3,.aB _ _ _ _ b c ?_ uG gC bW dP⟩;show(γ.boxes++[b])[H.bx.length]? =some b;rw[←I.cT];simp
          ·have hold:∀w',(∀ad,w'.cell? ad=w.cell? ad)→(Builtin.firstCells i.size n (.slice (some ⟨b,0,none⟩) n c)).run P w'= .ok (vs.toList.take (n*i.size)).toArray w':=fun w' hw'=>by
            refine run_firstCells_some (P:=P) w' i.size n _ _ _ _ (by have:=q2.1;simp;omega) (fun j v hj=>?_);rw[Addr.add_lit,hw'];rw[j7] at hj;split at hj
            ·simp only[World.cell?,q1,eS];simpa using hj
            ·cases hj
           obtain⟨f1,I1⟩:=I.K6 hb ak yn dP;have:=fresh γ {H with bx:=H.bx.set k []} (some ⟨b,0,none⟩) n c (vs.toList.take (n*i.size)).toArray (cs.take (n*i.size)) (.refl γ) f1 I1 hv (by omega) gQ hold (by rw[jT,kG]) jT Q4 (fun c hc=>q3 c (j8 hc));simpa using this
         ·cases he
       ·cases he
      ·cases he
   ·cases he
  ·rename_i k off n c bF hn;split at he
   ·rename_i aS;subst aS;have oF:=eH;rw[hn] at oF;generalize hv:a.eval s=v at oF;cases oF with
    |bu _ _ _ _ _ b c' hb eh dO=>
     have dO:=dO c rfl;subst dO;split at he
     ·rename_i jF;cases he;exact .same I (fin _ _ (by rw[hv];exact K9 (ty:=o.type) ht hu gF hi S jF _ n _ eh)) (by rw[hv] at eH;exact eH)
     ·rename_i jF;split at he
      ·rename_i cs ak;split at he
       ·rename_i kg;obtain⟨oA,hlen⟩:=kg;split at he
        ·rename_i gQ;split at he
         ·rename_i fx;cases he;exact Q3 k b off n _ cs _ hv gQ (by omega) hb ak oA fx (.bu _ _ _ _ _ b _ hb gQ (fun k hk=>by cases hk;rfl))
         ·cases he
        ·rename_i gQ;split at he
         ·rename_i Lb;cases he;obtain⟨gZ,So⟩:=K8 (P:=P) (c:=c') I (sz:=i.size) hb ak oA hlen;exact fresh γ H _ n _ gZ _ (.refl γ) (.refl γ H w) I hv (by omega) Lb So.cells (by rw[So.rep.1]) So.size So.rep.C2 So.one
         ·cases he
       ·cases he
      ·cases he
   ·cases he
  ·split at he
   ·rename_i es dC;have aaG:∃base,a.eval s= .slice base es.length es.length∧aZ γ.mem (.slice base es.length es.length) (.slice i.size es):=by
     unfold mK at dC;split at dC
     ·rename_i hn;cases dC;rw[hn] at eH;exact⟨none,eH.bY.qg,.kD _ _ _⟩
     ·rename_i bF hn;split at dC
      ·rename_i aS;subst aS;cases dC;rw[hn] at eH;generalize a.eval s=v at eH;cases eH with
       |ff ad _=>exact⟨ad,rfl,.kD _ _ _⟩
      ·cases dC
     ·rename_i e' bF iz hn;split at dC
      ·rename_i aS;subst aS;cases dC;rw[hn] at eH;generalize a.eval s=v at eH;cases eH with
       |cI b n _ _ _ hb dP hlen gY=>subst hlen;exact⟨_,rfl,gY⟩
      ·cases dC
     ·rename_i bF iz hn;split at dC
      ·rename_i aS;subst aS;cases dC;rw[hn] at eH;generalize a.eval s=v at eH;cases eH with
       |gK ad n _ _ hlen gY=>subst hlen;exact⟨_,rfl,gY⟩
      ·cases dC
     ·cases dC
    obtain⟨base,hv,gY⟩:=aaG;split at he
    ·rename_i jF;cases he;exact .same I (fin _ _ (by rw[hv];exact K9 (ty:=o.type) ht hu gF hi S jF _ _ _ (aV _))) (by rw[hv] at eH;exact eH)
    ·rename_i jF;split at he
     ·rename_i gQ;cases he;obtain⟨gZ,So⟩:=GM (P:=P) I iB gY;obtain⟨q1,q2⟩:=gD.flat So.rep (tail:=#[]) γ rfl;have jT:=So.rep.1;have fQ:((es.flatMap PD.cells).map D.p).length=es.length*i.size:=by rw[cx,wA es fun e he=>(So.rep.2.1 e he).1]
      exact fresh γ H base es.length es.length gZ _ (.refl γ) (.refl γ H w) I hv (by omega) gQ So.cells (by rw[fQ,jT]) jT (by simpa using q1) q2
     ·cases he
   ·cases he
 ·cases he
theorem aaH(I:Inv G γ H w)(E:bh γ env a.tmps){t e:TypeId}{l c:Operand}{l' c':aw}{i:TypeInfo}{z:PD}(ho:o.op= .makeSlice t l c)(ht:P.underlying t=some (.slice e))(hi:P.info? e=some i)(hz:zeroOf P e=some z)
    (hl:aQ l=some l') (hc:aQ c=some c') {d:D} {H':Hp} (he:aN G env H (.makesl i.size z i.bytes l' c')=some (d,H')):cA P G γ H w a o d H':=by
 simp only[aN] at he;unfold Am at he;split at he
 ·rename_i n m hn hm;split at he
  ·rename_i La;obtain⟨tv,gQ,AH,Lc⟩:=La;cases he;obtain⟨k1,kF⟩:=yd (bT E hl) hn;obtain⟨k2,hcv⟩:=yd (bT E hc) hm;obtain⟨v,hiz,q2⟩:∃v,i.zero=some v∧Av v=some z:=by
    unfold zeroOf at hz;rw[hi] at hz;dsimp only at hz;split at hz
    ·rename_i v hv;exact⟨v,hv,hz⟩
    ·cases hz
   have hv:=s7 γ.mem q2;have AF:m≤140737488355328∧m*i.bytes≤140737488355328:=by simpa[roomy] using gQ
   have hb:(i.bytes:Int)*(m:Int)≤281474976710656:=by
    have :m*i.bytes=i.bytes*m:=Ag _ _;have h2:i.bytes*m≤281474976710656:=by omega
    rw[←Int.natCast_mul];omega
   have cM:=run_make (P:=P) w t e i v ht hi hiz k1 k2 (n:Int) (m:Int) (by omega) (by omega) hb (by omega);simp only[qF] at cM;have zr:gD γ.mem i.size (madeCells v.cells (m*i.size)) (eB m z):=by
    have:=KX hv (len:=m) AH (gI.1 Lc);simpa[madeCells] using this
   obtain⟨r1,r2⟩:=gD.flat zr (tail:=#[]) γ rfl;obtain⟨γ',a1,a2,_,a3,a4⟩:=I.Ar e (vs:=madeCells v.cells (m*i.size)) (cs:=((eB m z).flatMap PD.cells).map .p) (fun _ h _ _=>(show eT γ _ _ by simpa using r1).mono h) r2;exact⟨_,_,γ',.inl (by simp[execOp,ho,kF,hcv,cM]),a1,a3,a4,.bu _ _ _ _ _ _ _ a2 tv (fun k hk=>by cases hk;rfl)⟩
  ·cases he
 ·cases he
theorem aaJ(I:Inv G γ H w)(E:bh γ env a.tmps){t e:TypeId}{len n:Nat}{parts:Array (Nat×Operand)}{z:PD}{qs:List (Nat×Nat×aw)}(ho:o.op= .buildSlice t len parts)(ht:P.underlying t=some (.slice e))
    (hn:fP P e=some n) (hz:zeroOf P e=some z) (hq:partsOf P (fun i=>some (i*n,n)) parts.toList=some qs) (qT:len*n≤16777216∧0<n) {d:D} {H':Hp} (he:aN G env H (.bsliceG e n len z qs)=some (d,H')):cA P G γ H w a o d H':=by
 simp only[aN] at he;split at he
 ·rename_i h1;obtain⟨h1,h2,h3⟩:=h1;obtain⟨cs,ak,dr,hh⟩:∃cs,aO (((eB len z).flatMap PD.cells).map .p) (qs.map fun(o,n,x)=>(o,n,x.ev env))=some cs∧cs.length=len*n∧(D.aB H.bx.length e len n,({H with bx:=H.bx++[cs]}:Hp))=(d,H'):=by
   split at he
   ·rename_i cs ak;split at he
    ·rename_i dr;exact⟨cs,ak,dr,oi he⟩
    ·cases he
   ·cases he
  cases hh;obtain⟨v,q1,q2⟩:=wm hz w;have hv:=s7 γ.mem q2;have hp:(parts.map fun(x:Nat×Operand)=>(x.1,a.eval x.2)).toList=parts.toList.map fun p=>(p.1,a.eval p.2):=GL parts a.eval;have h0:len*n≠0:=Nat.mul_ne_zero (by omega) (by omega);have zr:=KX hv (len:=len) h1 (gI.1 h2);obtain⟨r1,r2⟩:=gD.flat zr (tail:=#[]) γ rfl;have r1:eT γ ((Ke (len*n)).map fun i=>v.cells[i%v.cells.size]!) (((eB len z).flatMap PD.cells).map D.p):=by simpa using r1
  have fQ:(((eB len z).flatMap PD.cells).map D.p).length=len*n:=by
   rw[cx,wA (sz:=n) _ fun e he=>by rw[(YB.1 he).2];exact h1,CQ]
  obtain⟨jr,c1,c2,c3⟩:=GK E parts.toList qs _ _ cs hq (cy.Q0 r1 (by rw[fQ];simp)) r2 ak;obtain⟨γ',a1,a2,a5,a3,a4⟩:=I.Ar e (vs:=jr) (cs:=cs) (fun _ h _ _=>c2.C2.mono h) c3;rw[c2.1,dr] at a5;have ie:len≤maxLen:=by
   have h5:len*1≤len*n:=Nat.mul_le_mul_left _ qT.2;have h6:=qT.1;simp only[maxLen];omega
  refine⟨_,_,γ',.inl ?_,a1,a3,a4,.aB _ _ _ _ _ _ a2 (aV _) ie (k:=0) (by decide) a5⟩;have e1:¬(len*n>2 ^ 24):=by have:=qT.1;omega
  simp only[execOp,ho,Instr.buildSlice,Sem.run_bind,Result.andThen_ok,run_underlying ht,l7 hn,e1,if_false,hp];simp[h0,q1,c1,newRow]
 ·cases he
end Go.Vs
namespace Go.Vs
open Go.MapKept
variable {P : Program} {w : World}
structure Q5 (P:Program) (kt kd:Nat):Prop where
 iff:∀{m:Mem} {u v:Value} {x y:PD},aZ m u x→aZ m v y→dD x=kd→dD y=kd→(fO x y=true↔u=v)
 GQ:∀{m:Mem} {u:Value} {x:PD} (w:World) (e:Bool),aZ m u x→dD x=kd→(Instr.checkKey e 10000 kt u).run P w= .ok () w
 Ld:∀{m:Mem} {u:Value} {x:PD} (es:List MapEntry) (w:World),aZ m u x→dD x=kd→(∀e∈es,∃y,aZ m e.key y∧dD y=kd)→
  ((Instr.findKey kt u es).run P w= .ok none w∧∀e∈es,e.key≠u)∨∃(j:Nat) (e:MapEntry),(Instr.findKey kt u es).run P w= .ok (some (j,e.val)) w∧es[j]? =some e∧e.key=u
 stay:∀{m:Mem} {u:Value} {x:PD} (w:World),aZ m u x→dD x=kd→(Instr.keyThatStays u u).run P w= .ok u w
theorem GR{a b:IntKind}(h:mL a=mL b):a=b:=by cases a<;>cases b<;>first |rfl |cases h
theorem Q6(a:IntKind):10≤mL a:=by cases a<;>decide
theorem Le(a:IntKind):mL a<100:=by cases a<;>decide
theorem Lf{x:PD}(h:100≤dD x):∃k a b c,x= .agg [.int k a,.int k b,.int k c]∧dD x=100+mL k:=by
 unfold dD at h;split at h
 ·omega
 ·have:=Le ‹_›;omega
 ·omega
 ·rename_i k a k' b P6 c;split at h
  ·rename_i hk;obtain⟨rfl,rfl⟩:=hk;exact⟨k,a,b,c,rfl,by simp[dD]⟩
  ·omega
 ·omega
theorem Q7(ds:List PD):dD (.agg ds)=1∨100≤dD (.agg ds):=by
 unfold dD;split
 ·rename_i h;cases h
 ·rename_i h;cases h
 ·rename_i h;cases h
 ·split
  ·right;omega
  ·left;rfl
 ·left;rfl
theorem Di{m:Mem}{v:Value}{k:IntKind}{a b c:Int}(h:aZ m v (.agg [.int k a,.int k b,.int k c])):v= .agg #[.int k a,.int k b,.int k c]:=by
 obtain⟨cs,rfl,hs,_,hr⟩:=h.KL;have h0:=(hr 0 _ rfl).iI;have h1:=(hr 1 _ rfl).iI;have h2:=(hr 2 _ rfl).iI;congr 1
 apply PA
 ·simpa using hs
 ·intro i q1 q2;have hi:i<3:=by simpa using q2
  have e:cs[i]=cs.getD i undef:=by simp[bN,q1]
  rw[e]
  match i,hi with
  | 0,_=>exact h0
  | 1,_=>exact h1
  | 2,_=>exact h2
theorem aaK{kt e:TypeId}{k:IntKind}(ht:P.underlying kt=some (.array 3 e))(he:P.underlying e=some (.int k))(hs:fP P e=some 1)(em:Bool)(n:Nat)(a b c:Int):
    (Instr.checkKey em (n+2) kt (.agg #[.int k a,.int k b,.int k c])).run P w= .ok () w:=by
 have hg:∀w,(isAgg e).run P w= .ok false w:=fun w=>by simp[isAgg,run_underlying he]
 simp[Instr.checkKey,run_underlying ht,run_underlying he,l7 hs,part,hg,Std.Legacy.Range.forIn_eq_forIn_range',Std.Legacy.Range.size,xI]
theorem aaL{kt e:TypeId}{k:IntKind}(ht:P.underlying kt=some (.array 3 e))(he:P.underlying e=some (.int k))(hs:fP P e=some 1)(n:Nat)(a b c x y z:Int):
    (Op.equalIn (n+1+1) kt (.agg #[.int k a,.int k b,.int k c]) (.agg #[.int k x,.int k y,.int k z])).run P w= .ok (a==x&&b==y&&c==z) w:=by
 have hg:∀w,(isAgg e).run P w= .ok false w:=fun w=>by simp[isAgg,run_underlying he]
 have e1:∀(p q:Int) (w:World),(Op.equalIn (n+1) e (.int k p) (.int k q)).run P w= .ok (p==q) w:=fun p q w=>by simp[Op.equalIn,run_underlying he]
 rw[Op.equalIn];by_cases h1:a=x<;>by_cases h2:b=y<;>by_cases h3:c=z<;>
  simp[run_underlying ht,l7 hs,part,hg,Std.Legacy.Range.forIn_eq_forIn_range',Std.Legacy.Range.size,xI,e1,h1,h2,h3]
theorem aaM{kt e:TypeId}{k:IntKind}(ht:P.underlying kt=some (.array 3 e))(he:P.underlying e=some (.int k))(hs:fP P e=some 1)(a b c x y z:Int):
    (Op.equal kt (.agg #[.int k a,.int k b,.int k c]) (.agg #[.int k x,.int k y,.int k z])).run P w= .ok (a==x&&b==y&&c==z) w:=
 aaL ht he hs 9998 a b c x y z
theorem Q8{kt e:TypeId}{k:IntKind}(ht:P.underlying kt=some (.array 3 e))(he:P.underlying e=some (.int k))(hs:fP P e=some 1)(a b c:Int):
    ∀(es:List MapEntry) (i:Nat),(∀e∈es,∃x y z,e.key= .agg #[.int k x,.int k y,.int k z])→
     ((Instr.findAsking kt (.agg #[.int k a,.int k b,.int k c]) es i).run P w= .ok none w∧∀e∈es,e.key≠.agg #[.int k a,.int k b,.int k c])∨
     ∃(j:Nat) (e:MapEntry),(Instr.findAsking kt (.agg #[.int k a,.int k b,.int k c]) es i).run P w= .ok (some (i+j,e.val)) w∧es[j]? =some e∧e.key= .agg #[.int k a,.int k b,.int k c]
 |[],i,_=>.inl ⟨by simp[Instr.findAsking],fun e h=>by simp at h⟩
 |m::es,i,h=>by
  obtain⟨x,y,z,hm⟩:=h m (by simp);have hq:=aaM (w:=w) ht he hs a b c x y z;cases hb:(a==x&&b==y&&c==z) with
  |true=>
   refine .inr ⟨0,m,?_,rfl,?_⟩
   ·simp[Instr.findAsking,hm,hq,hb]
   ·simp at hb;rw[hm,hb.1.1,hb.1.2,hb.2]
  |false=>
   have aq:m.key≠.agg #[.int k a,.int k b,.int k c]:=fun he=>by
    rw[hm] at he;simp at he;simp[he] at hb
   rcases Q8 ht he hs a b c es (i+1) (fun e h'=>h e (by simp[h'])) with⟨q1,q2⟩ |⟨j,e,q1,q2,q3⟩
   ·refine .inl ⟨by simp[Instr.findAsking,hm,hq,hb,q1],fun e h'=>?_⟩;rcases cN.1 h' with rfl |h'
    ·exact aq
    ·exact q2 e h'
   ·refine .inr ⟨j+1,e,?_,q2,q3⟩;simp[Instr.findAsking,hm,hq,hb,q1];omega
theorem aaN{kt e:TypeId}(ht:P.underlying kt=some (.array 3 e))(u:Value)(es:List MapEntry):(Instr.findKey kt u es).run P w=(Instr.findAsking kt u es 0).run P w:=by
 cases es with
 |nil=>simp[Instr.findKey,run_underlying ht,Instr.findNow,Instr.findAsking]
 |cons m es=>simp[Instr.findKey,run_underlying ht,Instr.findNow,Instr.sameNow]
theorem aaO{m:Mem}{d:TypeDesc}{kd:Nat}(hd:Gx d=some kd){u:Value}{x:PD}(hu:aZ m u x)(hx:dD x=kd)(h1:kd≠1):IsKey d u:=by
 have g:=fun a=>Q6 a;have g2:=fun a=>Le a;subst hx;cases hu
 case agg cs ds hl dE hr=>
  exfalso;rcases Q7 ds with h |h
  ·exact h1 h
  ·generalize dD (.agg ds)=n at h hd;cases d<;>simp only[Gx,bI,reduceCtorEq] at hd
   ·omega
   ·have:=g2 ‹_›;omega
   ·omega
 all_goals cases d<;>simp only[Gx,bI,reduceCtorEq] at hd<;>simp only[dD] at hd h1<;>
  first
   |trivial
   |exact GR hd.symm
   |(exfalso;have q:=g ‹_›;omega)
   |(exact absurd rfl h1)
theorem aaP{m:Mem}{u v:Value}{x y:PD}(hu:aZ m u x)(hv:aZ m v y)(hk:dD x=dD y)(h1:dD x≠1):fO x y=true↔u=v:=by
 have g:=fun a=>Q6 a;have g2:=fun a=>Le a;by_cases aaQ:100≤dD x
 ·obtain⟨k,a,b,c,rfl,e1⟩:=Lf aaQ;obtain⟨k',a',b',c',rfl,e2⟩:=Lf (x:=y) (by omega);have:=GR (show mL k=mL k' by omega);subst this;rw[Di hu,Di hv];simp[fO];exact⟨fun⟨⟨p,q⟩,r⟩=>⟨p,q,r⟩,fun⟨p,q,r⟩=>⟨⟨p,q⟩,r⟩⟩
 have hx:∀{ds:List PD},dD (.agg ds)<100→dD (.agg ds)=1:=fun {ds} h=>by
  rcases Q7 ds with q |q
  ·exact q
  ·omega
 have hy1:dD y≠1:=by rw[←hk];exact h1
 have aaS:dD y<100:=by omega
 cases hu<;>first |(exfalso;exact h1 rfl) |(exfalso;exact h1 (hx (by omega))) |skip
 all_goals cases hv<;>first |(exfalso;exact hy1 (hx aaS)) |(exfalso;simp only[dD] at hk;omega) |(exfalso;simp only[dD] at hk;have q:=g ‹_›;omega) |skip
 ·simp[fO]
 ·have:=GR hk;subst this;simp[fO]
 ·simp[fO]
theorem GS{kt kd:Nat}(h:kindOf P kt=some kd)(h1:kd≠1):Q5 P kt kd:=by
 have Dj:∀{m:Mem} {u v:Value} {x y:PD},aZ m u x→aZ m v y→dD x=kd→dD y=kd→(fO x y=true↔u=v):=fun hu hv hx hy=>aaP hu hv (hx.trans hy.symm) (by rw[hx];exact h1);unfold kindOf at h;split at h
 ·rename_i e ht;split at h
  ·rename_i k he hs;cases h;have get:∀{m:Mem} {u:Value} {x:PD},aZ m u x→dD x=100+mL k→∃a b c,u= .agg #[.int k a,.int k b,.int k c]:=fun {m u x} hu hx=>by
    obtain⟨k',a,b,c,rfl,e1⟩:=Lf (x:=x) (by omega);have:=GR (show mL k=mL k' by omega);subst this;exact⟨a,b,c,Di hu⟩
   refine⟨Dj,fun {m u x} w em hu hx=>?_,fun {m u x} es w hu hx dC=>?_,fun {m u x} w hu hx=>?_⟩
   ·obtain⟨a,b,c,rfl⟩:=get hu hx;exact aaK ht he hs em 9998 a b c
   ·obtain⟨a,b,c,rfl⟩:=get hu hx;rw[aaN ht];have:=Q8 (w:=w) ht he hs a b c es 0 (fun e h=>by
     obtain⟨y,q1,q2⟩:=dC e h;exact get q1 q2)
    simpa using this
   ·obtain⟨a,b,c,rfl⟩:=get hu hx;simp[Instr.keyThatStays,Instr.sameBits]
  ·cases h
 ·rename_i d aq hd;have ik:∀{m:Mem} {u:Value} {x:PD},aZ m u x→dD x=kd→IsKey d u:=fun hu hx=>aaO h hu hx h1;refine⟨Dj,fun w em hu hx=>run_checkKey hd (ik hu hx) em 9999,fun {m u x} es w hu hx dC=>?_,fun w hu hx=>run_keyThatStays (ik hu hx)⟩;rcases findNow_spec (ik hu hx) es 0 (fun e h=>by obtain⟨y,q1,q2⟩:=dC e h;exact ik q1 q2) with⟨q1,q2⟩ |⟨j,e,q1,q2,q3⟩
  ·exact .inl ⟨run_findKey hd q1,q2⟩
  ·exact .inr ⟨j,e,by simpa using run_findKey hd q1,q2,q3⟩
 ·cases h
end Go.Vs
namespace Go.Vs
open Go.MapKept
variable {P : Program} {G : Nat → Option (List PD)} {γ : Gh} {H : Hp} {w : World} {env : Env} {a : Act} {o : Oper}
theorem Inv.aaT(I:Inv G γ H w)(kd:Nat):
    ∃γ',γ.le γ'∧γ'.boxes[H.bx.length]? =some w.heap.size∧Frame γ H w γ' {H with bx:=H.bx++[[.bB kd [] []]]} (w.alloc (.map #[] 0))∧Inv G γ' {H with bx:=H.bx++[[.bB kd [] []]]} (w.alloc (.map #[] 0)):=by
 let cs:List D:=[.bB kd [] []]
 let γ':Gh:={γ with boxes:=γ.boxes++[w.heap.size]}
 have hle:γ.le γ':=⟨rfl,fun c x h=>h,fun _ _ _ h=>h,fun i b h=>by
  have hi:i<γ.boxes.length:=(az.1 h).1;show(γ.boxes++[w.heap.size])[i]? =some b;rw[cH hi];exact h,fun t r h=>⟨r,h,rfl,rfl,fun _ _ h=>h⟩⟩
 have dK:∀t b,cY γ' {H with bx:=H.bx++[cs]} t b→cY γ H t b:=fun t b h=>cY.congr (fun _ _ h=>h) (fun _ _ h=>h) h;have bX:γ'.boxes[H.bx.length]? =some w.heap.size:=by
  show(γ.boxes++[w.heap.size])[H.bx.length]? =_;rw[←I.cT];simp
 refine⟨γ',hle,bX,?_,?_⟩
 ·refine⟨rfl,rfl,rfl,by simp,fun b hb _=>?_,fun b o _ _=>rfl,fun b hb=>?_,fun t b hb=>.inl (dK t b hb),fun b hb=>by
  rcases cW.1 (show b∈γ.boxes++[w.heap.size] from hb) with h |h
  ·exact .inl h
  ·exact .inr (by simp at h;omega)⟩
  ·rw[heap_alloc,if_neg (by omega)];exact⟨fun _=>rfl,.refl _ _⟩
  ·rcases Lv.push (γ':=γ') (H':={H with bx:=H.bx++[cs]}) I.cT rfl rfl hb with h |h
   ·exact .inl h
   ·exact .inr (by omega)
 ·constructor
  ·have:=I.size;show γ.base≤(w.alloc (.map #[] 0)).heap.size;simp;omega
  ·intro b T' n hb;obtain⟨us,fr,h2,h3⟩:=I.br b T' n hb;have:=(gz.1 h2).1;exact⟨us,fr,by rw[heap_alloc,if_neg (by omega)];exact h2,h3⟩
  ·exact I.iV
  ·intro b o v h;have ah:=I.qP h;rw[ux (w:=w) (by rw[heap_alloc,if_neg (by omega)])];exact I.mem b o v h
  ·exact I.jQ
  ·show(γ.boxes++[w.heap.size]).length=(H.bx++[cs]).length;simp[I.cT]
  ·exact I.Gq I.KB rfl rfl
  ·intro i b bL hb hc;have hb:(γ.boxes++[w.heap.size])[i]? =some b:=hb;have hc:(H.bx++[cs])[i]? =some bL:=hc;by_cases hi:i<γ.boxes.length
   ·rw[cH hi] at hb;rw[cH (by rw[←I.cT];exact hi)] at hc;obtain⟨cv,T',ct,a1,a2,a3⟩:=I.box i b bL hb hc;have:=I.mP (bS hb);exact⟨cv,T',ct,by rw[heap_alloc,if_neg (by omega)];exact a1,a2.mono hle,a3⟩
   ·have fk:i=γ.boxes.length:=by
     have:=(az.1 hb).1;simp at this;omega
    subst fk;rw[eL (aV _)] at hb;rw[I.cT,eL (aV _)] at hc;simp at hb hc;subst hb;subst hc;refine⟨#[.func (.func 0) #[] #[]],0,(0,0),by rw[heap_alloc,if_pos rfl];simp[oz,cs,aU],⟨by simp[cs],fun i d hd=>?_⟩,fun hm=>by simp[cs,aU] at hm,fun _ k _ _ hk=>by omega⟩
    match i with
    | 0=>
     simp only[cs,ew,bI] at hd;subst hd;exact .bB #[] #[] kd [] [] id rfl rfl rfl (fun j h=>by simp at h) (fun j j' h=>by simp at h) (fun j h=>by simp at h) (fun i x h=>by simp at h) (fun i j x y h=>by simp at h) (fun i x h=>by simp at h)
    |i+1=>simp[cs] at hd
  ·intro b o hb;rcases Lv.push (γ':=γ') (H':={H with bx:=H.bx++[cs]}) I.cT rfl rfl hb with h |⟨h,_⟩
   ·exact I.iw b o h
   ·subst h;show γ.mem w.heap.size o=none;cases hm:γ.mem w.heap.size o with
    |none=>rfl
    |some v=>have:=I.qP hm;omega
  ·intro i b h1 h2;have h2:(H.bx++[cs])[i]? =some []:=h2;have h1:(γ.boxes++[w.heap.size])[i]? =some b:=h1;rcases sZ I.cT h1 h2 with⟨a1,a2⟩ |⟨_,_,h⟩
   ·exact I.jE i b a1 a2
   ·simp[cs] at h
  ·exact I.fY
  ·intro t row f h1 h2;obtain⟨r,a1,a2⟩:=I.row t row f h1 h2;refine⟨r,a1,a2.keep hle.br (fun b cap hr ah=>?_) (fun b cap hr ah o=>rfl) (fun b cap hr ah hb cb=>?_)⟩
   ·have:=I.nE ⟨row,f,cap,h1,h2,hr▸a1,ah⟩;rw[heap_alloc,if_neg (by omega)]
   ·have cb:b∈γ.boxes++[w.heap.size]:=cb;have:=I.nE ⟨row,f,cap,h1,h2,hr▸a1,ah⟩;rcases cW.1 cb with h |h
    ·exact hb h
    ·simp at h;omega
  ·exact I.jR
  ·intro t t' b h h';exact I.free t t' b (dK t b h) (dK t' b h')
structure qW (γ:Gh) (es:Array MapEntry) (kd:Nat) (ks:List PD) (vs:List D) (s:Nat→Nat):Prop where
 n:es.size=ks.length
 d:vs.length=ks.length
 nK:∀j,j<ks.length→s j<ks.length
 inj:∀j j',j<ks.length→j'<ks.length→s j=s j'→j=j'
 AI:∀m,m<ks.length→∃j,j<ks.length∧s j=m
 key:∀(j:Nat) e x,es[s j]? =some e→ks[j]? =some x→aZ γ.mem e.key x∧dD x=kd
 one:∀(j j':Nat) x y,ks[j]? =some x→ks[j']? =some y→fO x y=true→j=j'
 val:∀(j:Nat) e d,es[s j]? =some e→vs[j]? =some d→aL γ e.val d
theorem qW.rep{γ:Gh}{es:Array MapEntry}{kd:Nat}{ks:List PD}{vs:List D}{s:Nat→Nat}(M:qW γ es kd ks vs s):aL γ (.func (.func 0) (es.map (·.key)) (es.map (·.val))) (.bB kd ks vs):=by
 refine .bB _ _ kd ks vs s (by simp[M.n]) (by simp[M.n]) M.d M.nK M.inj M.AI (fun j x hx=>?_) M.one (fun j d hd=>?_)
 ·have hj:j<ks.length:=(az.1 hx).1;have hs:s j<es.size:=by rw[M.n];exact M.nK j hj
  have:=M.key j es[s j] x (by simp[hs]) hx;simpa[bN,hs] using this
 ·have hj:j<ks.length:=by rw[←M.d];exact(az.1 hd).1
  have hs:s j<es.size:=by rw[M.n];exact M.nK j hj
  have:=M.val j es[s j] d (by simp[hs]) hd;simpa[bN,hs] using this
theorem Inv.mapBlock(I:Inv G γ H w){i b kd:Nat}{ks:List PD}{vs:List D}(hb:γ.boxes[i]? =some b)(hc:H.bx[i]? =some [.bB kd ks vs]):
    ∃(es:Array MapEntry) (ck:Nat) (s:Nat→Nat),w.heap[b]? =some (.map es ck)∧qW γ es kd ks vs s:=by
 obtain⟨us,T,fr,q1,q2,_⟩:=I.box i b _ hb hc;simp only[oz,aU,if_true] at q1;split at q1
 ·rename_i es ck rS;cases q1;have:=q2.2 0 _ rfl;simp only[bN] at this;have this:aL γ (.func (.func 0) (es.map (·.key)) (es.map (·.val))) (.bB kd ks vs):=by simpa using this
  cases this with
  |bB _ _ _ _ _ s hl kl dl hs hj hg hr hd kr=>
   refine⟨es,ck,s,rS,by simpa using hl,dl,hs,hj,hg,fun j e x he hx=>?_,hd,fun j e d he hd=>?_⟩
   ·have:=hr j x hx;simpa[bN,he] using this
   ·have:=kr j d hd;simpa[bN,he] using this
 ·cases q1
theorem Inv.Q9(I:Inv G γ H w){i b kd lD:Nat}{ks oG:List PD}{vs cv:List D}(hb:γ.boxes[i]? =some b)(hc:H.bx[i]? =some [.bB kd ks vs]){es iz:Array MapEntry}{ck ck':Nat}(hw:w.heap[b]? =some (.map es ck))
    {s':Nat→Nat} (M:qW γ iz lD oG cv s'):
    Frame γ H w γ {H with bx:=H.bx.set i [.bB lD oG cv]} {w with heap:=w.heap.setIfInBounds b (.map iz ck')}∧
     Inv G γ {H with bx:=H.bx.set i [.bB lD oG cv]} {w with heap:=w.heap.setIfInBounds b (.map iz ck')}:=by
 have ey:b∈γ.boxes:=bS hb;have kF:Lv γ H b:=⟨i,_,hb,hc,by simp⟩;have hi:i<H.bx.length:=(az.1 hc).1;have aaU:b<w.heap.size:=(gz.1 hw).1;have dK:∀t c,cY γ {H with bx:=H.bx.set i [.bB lD oG cv]} t c→cY γ H t c:=fun t c h=>cY.congr (fun _ _ h=>h) (fun _ _ h=>h) h;have lH:∀c,c≠b→(w.heap.setIfInBounds b (.map iz ck'))[c]? =w.heap[c]?:=fun c aq=>by simp[Ne.symm aq]
 refine⟨⟨rfl,rfl,rfl,by simp,fun c _ ho=>by
  show(_→(w.heap.setIfInBounds b (.map iz ck'))[c]? =_)∧qc _ _ ((w.heap.setIfInBounds b (.map iz ck'))[c]?);rw[lH c (fun e=>ho (.inl (e▸kF)))];exact⟨fun _=>rfl,.refl _ _⟩,fun _ _ _ _=>rfl,fun c kX=>.inl (Lv.set hc (by simp) kX),fun t c h=>.inl (dK t c h),fun _ h=>.inl h⟩,?_⟩
 constructor
 ·have:=I.size;simpa using this
 ·intro c T' n kX;obtain⟨x7,ct,h2,h3⟩:=I.br c T' n kX;have uy:c≠b:=fun e=>by subst e;rw[hw] at h2;cases h2
  exact⟨x7,ct,(lH c uy).trans h2,h3⟩
 ·exact I.iV
 ·intro c o v h;have aq:c≠b:=fun e=>by subst e;rw[I.iw c o kF] at h;cases h
  rw[ux (w:=w) (lH c aq)];exact I.mem c o v h
 ·exact I.jQ
 ·simp[I.cT]
 ·exact I.Gs hc (by simp)
 ·intro j c bL hj ak;by_cases cQ:i=j
  ·subst cQ;rw[hb] at hj;cases hj;have ak:(H.bx.set i [.bB lD oG cv])[i]? =some bL:=ak;rw[j9 hi] at ak;cases ak;have mT:(w.heap.setIfInBounds b (.map iz ck'))[b]? =some (.map iz ck'):=by simp[aaU]
   refine⟨#[.func (.func 0) (iz.map (·.key)) (iz.map (·.val))],0,(0,0),?_,⟨by simp,fun k d hd=>?_⟩,fun hm=>by simp[aU] at hm,fun _ k _ _ hk=>by omega⟩
   ·show oz _ ((w.heap.setIfInBounds b (.map iz ck'))[b]?)=_;rw[mT];rfl
   ·match k with
    | 0=>
     simp only[ew,bI] at hd;subst hd;exact M.rep
    |k+1=>simp at hd
  ·have ak:(H.bx.set i [.bB lD oG cv])[j]? =some bL:=ak;rw[dH cQ] at ak;obtain⟨x7,T',ct,a1,a2,a3⟩:=I.box j c bL hj ak;have aq:c≠b:=fun e=>by
    subst e;have h0:bL=[]:=qD fun h0=>cQ (I.nodup i j c _ bL hb hj hc ak (by simp) h0);subst h0;obtain⟨x,hx⟩:=I.jE j c hj ak;obtain⟨us2,Gn,z1,_⟩:=I.br c x.1 x.2 hx;rw[hw] at z1;cases z1
   refine⟨x7,T',ct,?_,a2,a3⟩;show oz _ ((w.heap.setIfInBounds b (.map iz ck'))[c]?)=_;rw[lH c aq];exact a1
 ·exact fun c o h=>I.iw c o (Lv.set hc (by simp) h)
 ·intro j c hj ak;have ak:(H.bx.set i [.bB lD oG cv])[j]? =some []:=ak;by_cases cQ:i=j
  ·subst cQ;rw[j9 hi] at ak;simp at ak
  ·rw[dH cQ] at ak;exact I.jE j c hj ak
 ·exact I.fY
 ·intro t row f h1 h2;obtain⟨r,a1,a2⟩:=I.row t row f h1 h2;refine⟨r,a1,?_⟩;refine a2.keep (fun _ _ h=>h) (fun c cap hr ah=>?_) (fun _ _ _ _ _=>rfl) (fun c cap hr ah h=>h);have aq:c≠b:=fun e=>by
   subst e;subst hr;obtain⟨cur,_,_,_,_,_,_,fZ⟩:=a2.2 ah;exact fZ ey
  exact lH c aq
 ·exact I.jR
 ·intro t t' c h h';exact I.free t t' c (dK t c h) (dK t' c h')
theorem Lg{k:PD}:∀{ks:List PD} {j:Nat},eO k ks=some j→∃x,ks[j]? =some x∧fO k x=true
 |a::r,j,h=>by
  simp only[eO] at h;split at h
  ·rename_i he;cases h;exact⟨a,rfl,he⟩
  ·obtain⟨i,hi,rfl⟩:=au.1 h;obtain⟨x,h1,h2⟩:=Lg hi;exact⟨x,by simpa using h1,h2⟩
theorem Lh{k:PD}:∀{ks:List PD},eO k ks=none→∀(j:Nat) x,ks[j]? =some x→fO k x=false
 |[],_,j,x,hx=>by simp at hx
 |a::r,h,j,x,hx=>by
  simp only[eO] at h;split at h
  ·cases h
  ·rename_i he;have h:=amA.1 h
   match j with
   | 0=>simp only[ew,bI] at hx;subst hx;simpa using he
   |j+1=>exact Lh h j x (by simpa using hx)
theorem Li(c:Nat):∀ks:List PD,iv c ks≤ks.length
 |[]=>aV _
 |a::r=>by simp only[iv];split<;>have:=Li c r<;>simp<;>omega
theorem qi{α:Type}(x:α):∀(p:Nat) (l:List α),(dI p x l).length=l.length+1
 | 0,l=>rfl
 |p+1,[]=>rfl
 |p+1,a::l=>by simp[dI,qi x p l]
theorem GU{α:Type}(x:α):∀(p:Nat) (l:List α),p≤l.length→∀i,(dI p x l)[i]? =if i<p then l[i]? else if i=p then some x else l[i-1]?
 | 0,l,_,i=>by
  cases i with
  |zero=>simp[dI]
  |succ i=>simp[dI]
 |p+1,[],h,i=>by simp at h
 |p+1,a::l,h,i=>by
  cases i with
  |zero=>simp[dI]
  |succ i=>
   have:=GU x p l (by simpa using h) i;simp only[dI,vN,this];by_cases h1:i<p
   ·rw[if_pos h1,if_pos (show i+1<p+1 by omega)]
   ·rw[if_neg h1,if_neg (show ¬i+1<p+1 by omega)];by_cases h2:i=p
    ·rw[if_pos h2,if_pos (show i+1=p+1 by omega)]
    ·rw[if_neg h2,if_neg (show ¬i+1=p+1 by omega)];have e:i+1-1=(i-1)+1:=by omega
     rw[e,vN]
section
variable {es : Array MapEntry} {kd : Nat} {ks : List PD} {vs : List D} {s : Nat → Nat} (M : qW γ es kd ks vs s) {kt : Nat} (hdd : Q5 P kt kd) {kv : Value} {k : PD} (hk : aZ γ.mem kv k) (ig : dD k = kd)
include M hdd hk ig
theorem qW.keys:∀x∈es.toList,∃y,aZ γ.mem x.key y∧dD y=kd:=by
 have _:=hk;have _:=ig;have _:=hdd;intro x hx;obtain⟨m,hm⟩:=eC hx;have ke:m<ks.length:=by rw[←M.n];simpa using (az.1 hm).1
 obtain⟨j,hj,rfl⟩:=M.AI m ke;obtain⟨q1,q2⟩:=M.key j x _ (by simpa using hm) (aA hj);exact⟨_,q1,q2⟩
theorem qW.found{j:Nat}(hf:eO k ks=some j)(w:World):∃e,es[s j]? =some e∧e.key=kv∧(Instr.findKey kt kv es.toList).run P w= .ok (some (s j,e.val)) w:=by
 obtain⟨x,hx,he⟩:=Lg hf;have hj:j<ks.length:=(az.1 hx).1;have wB:s j<es.size:=by rw[M.n];exact M.nK j hj
 have heq:es[s j]? =some es[s j]:=by simp[wB]
 obtain⟨q1,q2⟩:=M.key j _ x heq hx;have Lj:es[s j].key=kv:=((hdd.iff hk q1 ig q2).1 he).symm;refine⟨es[s j],heq,Lj,?_⟩;rcases hdd.Ld es.toList w hk ig (M.keys hdd hk ig) with⟨_,h2⟩ |⟨m,e,h2,h3,h4⟩
 ·exact absurd Lj (h2 _ (by simp))
 ·have hm:m<ks.length:=by rw[←M.n];simpa using (az.1 h3).1
  obtain⟨j',jS,rfl⟩:=M.AI m hm;obtain⟨r1,r2⟩:=M.key j' e _ (by simpa using h3) (aA jS);have hq:fO x ks[j']=true:=(hdd.iff q1 r1 q2 r2).2 (Lj.trans h4.symm);have:=M.one j j' x _ hx (aA jS) hq;subst this;have h3:es[s j]? =some e:=by simpa using h3
  rw[heq] at h3;cases h3;exact h2
theorem qW.Ra(hf:eO k ks=none)(w:World):(Instr.findKey kt kv es.toList).run P w= .ok none w:=by
 rcases hdd.Ld es.toList w hk ig (M.keys hdd hk ig) with⟨h2,_⟩ |⟨m,e,h2,h3,h4⟩
 ·exact h2
 ·exfalso;have hm:m<ks.length:=by rw[←M.n];simpa using (az.1 h3).1
  obtain⟨j',jS,rfl⟩:=M.AI m hm;obtain⟨r1,r2⟩:=M.key j' e _ (by simpa using h3) (aA jS);have hq:fO k ks[j']=true:=(hdd.iff hk r1 ig r2).2 h4.symm;rw[Lh hf j' _ (aA jS)] at hq;cases hq
theorem qW.ins(hf:eO k ks=none){v:Value}{d:D}(hv:aL γ v d)(ck:Nat){p:Nat}(hp:p≤ks.length):
    qW γ (es.push {key:=kv,val:=v,born:=ck}) kd (dI p k ks) (dI p d vs) (fun j=>if j<p then s j else if j=p then ks.length else s (j-1)):=by
 have _:=hdd;have jt:∀m e,(es.push {key:=kv,val:=v,born:=ck})[m]? =some e→if m=ks.length then e.key=kv∧e.val=v else es[m]? =some e:=by
  intro m e hm;rw[Array.getElem?_push,M.n] at hm;split at hm
  ·rename_i h;rw[if_pos h];cases hm;exact⟨rfl,rfl⟩
  ·rename_i h;rw[if_neg h];exact hm
 refine⟨by simp[qi,M.n],by rw[qi,qi,M.d],fun j hj=>?_,fun j j' hj jS h=>?_,fun m hm=>?_,fun j e x he hx=>?_,fun j j' x y hx hy h=>?_,fun j e y he hy=>?_⟩
 ·rw[qi] at hj⊢
  try dsimp only
  split
  ·have:=M.nK j (by omega);omega
  ·split
   ·omega
   ·have:=M.nK (j-1) (by omega);omega
 ·rw[qi] at hj jS
  try dsimp only at h
  split at h
  ·rename_i a1;have b1:=M.nK j (by omega);split at h
   ·exact M.inj j j' (by omega) (by omega) h
   ·split at h
    ·omega
    ·have:=M.inj j (j'-1) (by omega) (by omega) h;omega
  ·split at h
   ·rename_i a1 a2;split at h
    ·have:=M.nK j' (by omega);omega
    ·split at h
     ·omega
     ·have:=M.nK (j'-1) (by omega);omega
   ·rename_i a1 a2;have b1:=M.nK (j-1) (by omega);split at h
    ·have:=M.inj (j-1) j' (by omega) (by omega) h;omega
    ·split at h
     ·omega
     ·have:=M.inj (j-1) (j'-1) (by omega) (by omega) h;omega
 ·rw[qi] at hm⊢;by_cases hmn:m=ks.length
  ·exact⟨p,by omega,by simp[hmn]⟩
  ·obtain⟨j,hj,rfl⟩:=M.AI m (by omega);by_cases hjp:j<p
   ·exact⟨j,by omega,by simp[hjp]⟩
   ·exact⟨j+1,by omega,by rw[if_neg (by omega),if_neg (by omega)];rfl⟩
 ·rw[GU _ _ _ hp] at hx;have he:=jt _ e he;by_cases h2:j<p
  ·rw[if_pos h2] at hx;simp only[h2,if_true] at he;have:=M.nK j (by omega);rw[if_neg (by omega)] at he;exact M.key j e x he hx
  ·rw[if_neg h2] at hx;simp only[h2,if_false] at he;by_cases h3:j=p
   ·rw[if_pos h3] at hx;rw[if_pos h3,if_pos rfl] at he;cases hx;rw[he.1];exact⟨hk,ig⟩
   ·rw[if_neg h3] at hx;rw[if_neg h3] at he;have hj:j-1<ks.length:=(az.1 hx).1;have:=M.nK (j-1) hj;rw[if_neg (by omega)] at he;exact M.key (j-1) e x he hx
 ·have mT:∀(i:Nat) z,ks[i]? =some z→fO k z=false∧fO z k=false:=by
   intro i z hz;have hi:i<ks.length:=(az.1 hz).1;have Ll:s i<es.size:=by rw[M.n];exact M.nK i hi
   obtain⟨q1,q2⟩:=M.key i es[s i] z (by simp[Ll]) hz;have uH:=Lh hf i z hz;refine⟨uH,?_⟩;cases hq:fO z k with
   |false=>rfl
   |true=>
    have:=(hdd.iff q1 hk q2 ig).1 hq;rw[(hdd.iff hk q1 ig q2).2 this.symm] at uH;cases uH
  rw[GU _ _ _ hp] at hx hy;by_cases a1:j<p
  ·rw[if_pos a1] at hx;by_cases b1:j'<p
   ·rw[if_pos b1] at hy;exact M.one j j' x y hx hy h
   ·rw[if_neg b1] at hy;by_cases b2:j'=p
    ·rw[if_pos b2] at hy;cases hy;rw[(mT j x hx).2] at h;cases h
    ·rw[if_neg b2] at hy;have:=M.one j (j'-1) x y hx hy h;omega
  ·rw[if_neg a1] at hx;by_cases a2:j=p
   ·rw[if_pos a2] at hx;cases hx;by_cases b1:j'<p
    ·rw[if_pos b1] at hy;rw[(mT j' y hy).1] at h;cases h
    ·rw[if_neg b1] at hy;by_cases b2:j'=p
     ·omega
     ·rw[if_neg b2] at hy;rw[(mT _ y hy).1] at h;cases h
   ·rw[if_neg a2] at hx;by_cases b1:j'<p
    ·rw[if_pos b1] at hy;have:=M.one (j-1) j' x y hx hy h;omega
    ·rw[if_neg b1] at hy;by_cases b2:j'=p
     ·rw[if_pos b2] at hy;cases hy;rw[(mT _ x hx).2] at h;cases h
     ·rw[if_neg b2] at hy;have:=M.one (j-1) (j'-1) x y hx hy h;omega
 ·rw[GU _ _ _ (by rw[M.d];exact hp)] at hy;have he:=jt _ e he;by_cases h2:j<p
  ·rw[if_pos h2] at hy;simp only[h2,if_true] at he;have:=M.nK j (by omega);rw[if_neg (by omega)] at he;exact M.val j e y he hy
  ·rw[if_neg h2] at hy;simp only[h2,if_false] at he;by_cases h3:j=p
   ·rw[if_pos h3] at hy;rw[if_pos h3,if_pos rfl] at he;cases hy;rw[he.2];exact hv
   ·rw[if_neg h3] at hy;rw[if_neg h3] at he;have hj:j-1<ks.length:=by rw[←M.d];exact(az.1 hy).1
    have:=M.nK (j-1) hj;rw[if_neg (by omega)] at he;exact M.val (j-1) e y he hy
theorem qW.upd{j:Nat}(hf:eO k ks=some j){v:Value}{d:D}(hv:aL γ v d):
    qW γ (es.modify (s j) fun e=>{e with key:=kv,val:=v}) kd ks (vs.set j d) s:=by
 obtain⟨e0,f1,f2,_⟩:=M.found hdd hk ig hf default;obtain⟨x0,rT,_⟩:=Lg hf;have nL:j<ks.length:=(az.1 rT).1;have jt:∀m e,(es.modify (s j) fun e=>{e with key:=kv,val:=v})[m]? =some e→if m=s j then e.key=kv∧e.val=v else es[m]? =some e:=by
  intro m e hm;rw[amy] at hm;by_cases cQ:s j=m
  ·subst cQ;rw[if_pos rfl,f1] at hm;simp at hm;subst hm;simp
  ·rw[if_neg cQ] at hm;rw[if_neg (fun e=>cQ e.symm)];exact hm
 refine⟨by simp[M.n],by simp[M.d],M.nK,M.inj,M.AI,fun i e x he hx=>?_,M.one,fun i e y he hy=>?_⟩
 ·have hq:=jt _ e he;have hi:i<ks.length:=(az.1 hx).1;split at hq
  ·rename_i hs;have:=M.inj i j hi nL hs;subst this;rw[hq.1];have:=M.key i e0 x f1 hx;rw[f2] at this;exact this
  ·exact M.key i e x hq hx
 ·have hq:=jt _ e he;have hi:i<ks.length:=by rw[←M.d];simpa using (az.1 hy).1
  split at hq
  ·rename_i hs;have:=M.inj i j hi nL hs;subst this;rw[j9 (by rw[M.d];exact hi)] at hy;cases hy;rw[hq.2];exact hv
  ·rename_i hs;have aq:j≠i:=fun e=>hs (by rw[e]);rw[dH aq] at hy;exact M.val i e y hq hy
end
theorem aaY(I:Inv G γ H w){t:TypeId}{kd:Nat}(ho:o.op= .makeMap t none){d:D}{H':Hp}(he:aN G env H (.vY kd)=some (d,H')):cA P G γ H w a o d H':=by
 simp only[aN] at he;cases he;obtain⟨γ',a1,a2,a3,a4⟩:=I.aaT kd;exact⟨.map (some w.heap.size),_,γ',.inl (by simp[execOp,ho,Instr.makeMap]),a1,a3,a4,.bU _ _ a2⟩
theorem aaZ(I:Inv G γ H w)(E:bh γ env a.tmps){t kt et:TypeId}{m k:Operand}{m' k':aw}{ok:Bool}{kd:Nat}{z:PD}(ho:o.op= .lookup t m k ok)(ht:P.underlying t=some (.map kt et))(hg:kindOf P kt=some kd)(hz:zeroOf P et=some z)
    (hm:aQ m=some m') (hk:aQ k=some k') {d:D} {H':Hp} (he:aN G env H (.mapget kd z ok m' k')=some (d,H')):cA P G γ H w a o d H':=by
 have py:=bT E hm;have l9:=bT E hk;simp only[aN] at he;obtain⟨d0,fH,hh⟩:=au.1 he;cases hh;obtain⟨zv,Dk,AJ⟩:=wm hz w;have GV:=s7 γ.mem AJ;have fin:∀(v:Value) (found:Bool) (dv:D),(Instr.lookup t (a.eval m) (a.eval k) ok).run P w= .ok (if ok then .tuple #[v,.bool found] else v) w→aL γ v dv→cA P G γ H w a o (if ok then .bA [dv,.p (.bool found)] else dv) H:=by
  intro v found dv cM hv;refine .same I (v:=if ok then .tuple #[v,.bool found] else v) (by simp[execOp,ho,cM]) ?_;cases ok with
  |false=>exact hv
  |true=>
   refine .bA _ _ rfl fun i x hx=>?_
   match i with
   | 0=>simp only[ew,bI] at hx;subst hx;exact hv
   | 1=>simp only[vN,ew,bI] at hx;subst hx;exact .p _ _ (.bool _)
   |i+2=>simp at hx
 unfold v8 at fH;split at fH
 ·rename_i kx jF tz;split at fH
  ·rename_i hc;cases fH;rw[jF] at py;rw[tz] at l9;have rQ:a.eval m= .map none:=by
    generalize a.eval m=v at py;cases py with
    |p _ _ h=>cases h;rfl
   have hdd:=GS hg hc.2;have iW:=fun w em=>hdd.GQ w em l9.bY hc.1;have f3:(Instr.findKey kt (a.eval k) []).run P w= .ok none w:=by
    rcases hdd.Ld [] w l9.bY hc.1 (fun e h=>by simp at h) with⟨q,_⟩ |⟨j,e,_,q,_⟩
    ·exact q
    ·simp at q
   have:=fin zv false (.p z) (by
    rw[rQ];simp[Instr.lookup,run_underlying ht,iW,f3,Dk,Result.andThen]
    try (cases ok<;>simp)) (.p _ _ GV)
   cases ok<;>exact this
  ·cases fH
 ·rename_i i kx jF tz;rw[jF] at py;rw[tz] at l9;split at fH
  ·rename_i lD ks vs bX;generalize rQ:a.eval m=v at py;cases py with
   |bU _ b hb=>
    obtain⟨es,ck,s,q1,M⟩:=I.mapBlock hb bX;split at fH
    ·rename_i hc;obtain⟨kJ,yo,kg⟩:=hc;subst yo;have hdd:=GS hg kg;have iW:=fun w em=>hdd.GQ w em l9.bY kJ;split at fH
     ·rename_i j hj;obtain⟨e,f1,f2,f3⟩:=M.found hdd l9.bY kJ hj w;obtain⟨dv,hdv,rfl⟩:=au.1 fH;refine fin e.val true dv ?_ (M.val j e dv f1 hdv);rw[rQ];simp[Instr.lookup,run_underlying ht,MapKept.run_getObj_map q1,iW,f3,Result.andThen]
      try (cases ok<;>simp)
     ·rename_i hj;have f3:=M.Ra hdd l9.bY kJ hj w;cases fH;have:=fin zv false (.p z) (by
       rw[rQ];simp[Instr.lookup,run_underlying ht,MapKept.run_getObj_map q1,iW,f3,Dk,Result.andThen]
       try (cases ok<;>simp)) (.p _ _ GV)
      cases ok<;>exact this
    ·cases fH
  ·cases fH
 ·cases fH
theorem Rb(I:Inv G γ H w)(E:bh γ env a.tmps){t kt et:TypeId}{m k x:Operand}{m' k' x':aw}{kd:Nat}(ho:o.op= .mapUpdate t m k x∨o.op= .insert t m k x)(ht:P.underlying t=some (.map kt et))(hg:kindOf P kt=some kd)
    (hm:aQ m=some m') (hk:aQ k=some k') (hx:aQ x=some x') {d:D} {H':Hp} (he:qK kd (m'.ev env) (k'.ev env) (x'.ev env) H=some (d,H')):cA P G γ H w a o d H':=by
 have py:=bT E hm;have l9:=bT E hk;have aJ:=bT E hx;unfold qK at he;split at he
 ·rename_i i kx jF tz;rw[jF] at py;rw[tz] at l9;split at he
  ·rename_i lD ks vs bX;generalize rQ:a.eval m=v at py;cases py with
   |bU _ b hb=>
    obtain⟨es,ck,s,q1,M⟩:=I.mapBlock hb bX;split at he
    ·rename_i hc;obtain⟨kJ,yo,kg,Rc,_⟩:=hc;cases he;subst yo;have hdd:=GS hg kg;have iW:=fun w em=>hdd.GQ w em l9.bY kJ;have f3:=M.Ra hdd l9.bY kJ Rc w;have M':=M.ins hdd l9.bY kJ Rc aJ ck (Li (cX kx) ks);obtain⟨F,J⟩:=I.Q9 (ck':=ck+1) hb bX q1 M';refine⟨undef,_,γ,.inr ⟨?_,rfl⟩,.refl γ,F,J,.undef⟩;have cM:(Instr.mapUpdate t (a.eval m) (a.eval k) (a.eval x)).run P w= .ok () {w with heap:=w.heap.setIfInBounds b (.map (es.push {key:=a.eval k,val:=a.eval x,born:=ck}) (ck+1))}:=by
      rw[rQ];simp[Instr.mapUpdate,run_underlying ht,MapKept.run_getObj_map q1,iW,f3,MapKept.run_setObj_map _ q1,Result.andThen]
     rcases ho with ho |ho<;>simp[execOp,ho,cM,Result.andThen]
    ·cases he
  ·cases he
 ·cases he
theorem aa1(I:Inv G γ H w)(E:bh γ env a.tmps){t kt et:TypeId}{m k x:Operand}{m' k' x':aw}{kd:Nat}(ho:o.op= .mapUpdate t m k x)(ht:P.underlying t=some (.map kt et))(hg:kindOf P kt=some kd)
    (hm:aQ m=some m') (hk:aQ k=some k') (hx:aQ x=some x') {d:D} {H':Hp} (he:aN G env H (.mapset kd m' k' x')=some (d,H')):cA P G γ H w a o d H':=by
 have py:=bT E hm;have l9:=bT E hk;have aJ:=bT E hx;simp only[aN] at he;unfold CX at he;split at he
 ·rename_i i kx jF tz;split at he
  ·rename_i lD ks vs bX;split at he
   ·rename_i hc;obtain⟨kJ,yo,kg⟩:=hc;subst yo;split at he
    ·rename_i j hj;cases he;rw[jF] at py;rw[tz] at l9;generalize rQ:a.eval m=v at py;cases py with
     |bU _ b hb=>
      obtain⟨es,ck,s,q1,M⟩:=I.mapBlock hb bX;have hdd:=GS hg kg;have iW:=fun w em=>hdd.GQ w em l9.bY kJ;obtain⟨e0,f1,f2,f3⟩:=M.found hdd l9.bY kJ hj w;have M':=M.upd hdd l9.bY kJ hj aJ;obtain⟨F,J⟩:=I.Q9 (ck':=ck) hb bX q1 M';refine⟨undef,_,γ,.inr ⟨?_,rfl⟩,.refl γ,F,J,.undef⟩;have cM:(Instr.mapUpdate t (a.eval m) (a.eval k) (a.eval x)).run P w= .ok () {w with heap:=w.heap.setIfInBounds b (.map (es.modify (s j) fun e=>{e with key:=a.eval k,val:=a.eval x}) ck)}:=by
       rw[rQ];simp[Instr.mapUpdate,run_underlying ht,MapKept.run_getObj_map q1,iW,f3,f1,f2,hdd.stay w l9.bY kJ,MapKept.run_setObj_map _ q1,Result.andThen]
      simp[execOp,ho,cM,Result.andThen]
    ·exact Rb I E (.inl ho) ht hg hm hk hx he
   ·cases he
  ·cases he
 ·cases he
end Go.Vs
namespace Go.Vs
variable {P : Program} {G : Nat → Option (List PD)} {γ : Gh} {H : Hp} {w : World} {env : Env} {a : Act} {o : Oper}
theorem aa2(I:Inv G γ H w)(E:bh γ env a.tmps){t xt:TypeId}{x:Operand}{y:aw}{ok:Bool}{z:PD}{u:TypeDesc}(ho:o.op= .typeAssert x xt t ok)(ht:P.underlying t=some u)(gX:∀ms,u≠.interface ms)
    (hz:zeroOf P t=some z) (hx:aQ x=some y) {d:D} {H':Hp} (he:aN G env H (.tassert t z ok y)=some (d,H')):cA P G γ H w a o d H':=by
 have hr:=bT E hx;simp only[aN] at he;obtain⟨d0,fH,hh⟩:=au.1 he;cases hh;obtain⟨zv,Dk,AJ⟩:=wm hz w;have GV:=s7 γ.mem AJ;have holds:∀(v:Value) (dv:D),a.eval x= .iface t v→aL γ v dv→cA P G γ H w a o (if ok then .bA [dv,.p (.bool true)] else dv) H:=by
  intro v dv hv gY;refine .same I (v:=if ok then .tuple #[v,.bool true] else v) ?_ ?_
  ·have :(Instr.typeAssert (a.eval x) xt t ok).run P w= .ok (if ok then .tuple #[v,.bool true] else v) w:=by
    rw[hv];unfold Instr.typeAssert;simp only[Sem.run_bind,run_underlying ht,Result.andThen_ok];cases u<;>first |exact absurd rfl (gX _) |(cases ok<;>simp)
   simp[execOp,ho,this]
  ·cases ok with
   |false=>exact gY
   |true=>
    refine .bA _ _ rfl fun i x hx=>?_
    match i with
    | 0=>simp only[ew,bI] at hx;subst hx;exact gY
    | 1=>simp only[vN,ew,bI] at hx;subst hx;exact .p _ _ (.bool _)
    |i+2=>simp at hx
 have Lm:ok=true→(a.eval x= .nilIface∨∃t' v,a.eval x= .iface t' v∧t'≠t)→cA P G γ H w a o (.bA [.p z,.p (.bool false)]) H:=by
  intro bV hv;refine .same I (v:=.tuple #[zv,.bool false]) ?_ (.bA _ _ rfl fun i x hx=>?_)
  ·have :(Instr.typeAssert (a.eval x) xt t ok).run P w= .ok (.tuple #[zv,.bool false]) w:=by
    subst bV;unfold Instr.typeAssert;simp only[Sem.run_bind,run_underlying ht,Result.andThen_ok];rcases hv with hv |⟨t',v,hv,aq⟩
    ·rw[hv];cases u<;>first |exact absurd rfl (gX _) |simp[Dk,Result.andThen]
    ·rw[hv];cases u<;>first |exact absurd rfl (gX _) |simp[aq,Dk,Result.andThen]
   simp[execOp,ho,this]
  ·match i with
   | 0=>simp only[ew,bI] at hx;subst hx;exact .p _ _ GV
   | 1=>simp only[vN,ew,bI] at hx;subst hx;exact .p _ _ (.bool _)
   |i+2=>simp at hx
 unfold P3 at fH;split at fH
 ·rename_i u' y' hy;rw[hy] at hr;have hp:=hr.bY;generalize hv:a.eval x=v at hp;cases hp with
  |iface _ v0 _ h0=>
   split at fH
   ·rename_i qj;subst qj;cases fH;have:=holds v0 (.p y') hv (.p _ _ h0);cases ok<;>exact this
   ·rename_i qj;split at fH
    ·rename_i bV;cases fH;exact Lm bV (.inr ⟨u',v0,hv,qj⟩)
    ·cases fH
 ·rename_i u' y' hy;rw[hy] at hr;generalize hv:a.eval x=v at hr;cases hr with
  |eE _ v0 _ h0=>
   split at fH
   ·rename_i qj;subst qj;cases fH;have:=holds v0 y' hv h0;cases ok<;>exact this
   ·rename_i qj;split at fH
    ·rename_i bV;cases fH;exact Lm bV (.inr ⟨u',v0,hv,qj⟩)
    ·cases fH
 ·rename_i hy;rw[hy] at hr;have hp:=hr.bY;split at fH
  ·rename_i bV;cases fH;refine Lm bV (.inl ?_);generalize a.eval x=v at hp;cases hp;rfl
  ·cases fH
 ·cases fH
theorem uI(I:Inv G γ H w)(E:bh γ env a.tmps){k:SK}(hk:gO P o.op=some k)(bV:Qo P o k=true){d:D}{H':Hp}(he:aN G env H k=some (d,H')):cA P G γ H w a o d H':=by
 cases ho:o.op with
 |move x=>
  rw[ho] at hk;obtain⟨y,hy,rfl⟩:=au.1 hk;simp only[aN] at he;cases he;exact Qr I E (.inl ho) hy
 |assign x=>
  rw[ho] at hk;obtain⟨y,hy,rfl⟩:=au.1 hk;simp only[aN] at he;cases he;exact Qr I E (.inr ho) hy
 |pick c x y=>
  rw[ho] at hk;simp only[gO] at hk;split at hk
  ·rename_i c' x' y' h1 h2 h3;cases hk;simp only[aN] at he;split at he
   ·rename_i t ht;cases he;exact Zq I E ho h1 h2 h3 ht
   ·cases he
  ·cases hk
 |alloc e=>
  rw[ho] at hk;obtain⟨z,hz,rfl⟩:=au.1 hk;exact Z5 I ho hz he
 |box e x=>
  rw[ho] at hk;obtain⟨y,hy,rfl⟩:=au.1 hk;exact Z6 I E ho hy he
 |build t parts=>
  rw[ho] at hk;simp only[gO] at hk;split at hk
  ·rename_i fs zs h1 h2;split at hk
   ·rename_i pl cg;obtain⟨qs,hq,rfl⟩:=au.1 hk;exact Z9 I E ho h1 h2 cg hq he
   ·cases hk
  ·rename_i n e zs h1 h2;split at hk
   ·rename_i s hs;obtain⟨qs,hq,rfl⟩:=au.1 hk;exact aab I E ho h1 h2 hs hq he
   ·cases hk
  ·cases hk
 |buildSlice t len parts=>
  rw[ho] at hk;simp only[gO] at hk;split at hk
  ·rename_i e h1;split at hk
   ·rename_i n z ps h2 h3 h4;split at hk
    ·rename_i qT;cases hk;exact aac I E ho h1 h2 h3 h4 qT he
    ·cases hk
   ·cases hk
  ·cases hk
 |load t x=>
  rw[ho] at hk;simp only[gO] at hk;split at hk
  ·rename_i n y h1 h2;cases hk;exact Z3 I E ho h1 h2 he
  ·cases hk
 |store t x y=>
  rw[ho] at hk;simp only[gO] at hk;split at hk
  ·rename_i n x' y' h1 h2 h3;cases hk;exact Z4 I E ho h1 h2 h3 he
  ·cases hk
 |nilCheck x=>
  rw[ho] at hk;obtain⟨y,hy,rfl⟩:=au.1 hk;exact Zr I E ho hy he
 |binOp op t x y yt=>
  rw[ho] at hk;simp only[gO] at hk;split at hk
  ·rename_i h1 h2 _;cases hk;exact Qx I E ho h1 h2 he
  ·rename_i h1 h2 _;cases hk;exact Qx I E ho h1 h2 he
  ·rename_i h1 h2 h3;split at hk
   ·rename_i dF;cases hk;exact GG I E ho dF h1 h2 (.inl ⟨rfl,h3⟩) he
   ·cases hk
  ·rename_i h1 h2 h3;split at hk
   ·rename_i dF;cases hk;exact GG I E ho dF h1 h2 (.inr (.inl ⟨rfl,_,h3⟩)) he
   ·cases hk
  ·rename_i h1 h2 h3;split at hk
   ·rename_i dF;cases hk;exact GG I E ho dF h1 h2 (.inr (.inr (.inl ⟨rfl,_,h3⟩))) he
   ·cases hk
  ·rename_i h1 h2 h3;split at hk
   ·rename_i dF;cases hk;exact GG I E ho dF h1 h2 (.inr (.inr (.inr ⟨rfl,_,_,_,h3⟩))) he
   ·cases hk
  ·rename_i h1 h2 h3;split at hk
   ·rename_i dF;cases hk;obtain⟨dF,K5⟩:=dF;cases y with
    |const c=>exact aas I E ho dF rfl h1 h2 h3 he
    |_=>cases K5
   ·cases hk
  ·rename_i h1 h2 h3;split at hk
   ·rename_i dF;obtain⟨ts,px,rfl⟩:=au.1 hk;exact ZW I E ho dF.1 h1 h2 h3 dF.2.1 dF.2.2 px he
   ·cases hk
  ·cases hk
 |unOp op t x=>
  rw[ho] at hk;obtain⟨y,hy,rfl⟩:=au.1 hk;exact ZJ I E ho hy he
 |convert s t x=>
  rw[ho] at hk;simp only[gO] at hk;split at hk
  ·rename_i h1 h2 h3;cases hk;exact ZK I E ho h1 h2 h3 he
  ·rename_i h1 h2 h3;cases hk;exact ZL I E ho h1 h2 h3 he
  ·rename_i h1 h2 h3;split at hk
   ·rename_i h4;cases hk;exact aai I E ho h1 h2 h4 h3 he
   ·cases hk
  ·rename_i h1 h2 h3;split at hk
   ·rename_i h4;cases hk;exact aah I E ho h1 h4 h2 h3 he
   ·cases hk
  ·cases hk
 |makeFunc fn first cap=>
  rw[ho] at hk;cases fn with
  |func f=>
   simp only[gO] at hk;split at hk
   ·rename_i h1 h2;cases hk;simp only[aN] at he;cases he;exact Zy I E ho h1 h2
   ·cases hk
  |_=>cases hk
 |slice t x lo hi mx=>
  rw[ho] at hk;cases mx with
  |some m=>
   cases hi with
   |none=>simp only[gO] at hk;cases hk
   |some hi=>
    simp only[gO] at hk;split at hk
    ·rename_i h1 h2 h3 h4 h5;split at hk
     ·rename_i h6;cases hk;exact ZP I E ho h1 h6 h2 h3 h4 h5 he
     ·cases hk
    ·cases hk
  |none=>
   simp only[gO] at hk;split at hk
   ·rename_i h1 h2 h3 h4;cases hk;exact ZN I E ho h1 h2 h3 h4 he
   ·rename_i h1 h2 h3 h4;split at hk
    ·rename_i h5;cases hk;exact ZO I E ho h1 h5 h2 h3 h4 he
    ·cases hk
   ·cases hk
 |makeSlice t l c=>
  rw[ho] at hk;simp only[gO] at hk;split at hk
  ·rename_i h1 h2 h3;split at hk
   ·rename_i i z h4 h5;cases hk;exact aaH I E ho h1 h4 h5 h2 h3 he
   ·cases hk
  ·cases hk
 |fieldAddr t x f=>
  rw[ho] at hk;simp only[gO] at hk;split at hk
  ·rename_i h1 h2;split at hk
   ·rename_i h3;split at hk
    ·rename_i h4;cases hk;exact Zs I E ho h2 h1 h3 h4 he
    ·cases hk
   ·cases hk
  ·cases hk
 |field t x f=>
  rw[ho] at hk;simp only[gO] at hk;split at hk
  ·rename_i h1 h2;split at hk
   ·rename_i h3;obtain⟨n,hn,rfl⟩:=au.1 hk;exact Zw I E ho h2 h1 h3 hn he
   ·cases hk
  ·cases hk
 |indexAddr t x i=>
  rw[ho] at hk;simp only[gO] at hk;split at hk
  ·rename_i h1 h2 h3;obtain⟨n,hn,rfl⟩:=au.1 hk;exact Zu I E ho h1 hn h2 h3 he
  ·rename_i h1 h2 h3;obtain⟨n,hn,rfl⟩:=au.1 hk;exact Zt I E ho h1 hn h2 h3 he
  ·cases hk
 |index t x i=>
  rw[ho] at hk;simp only[gO] at hk;split at hk
  ·rename_i h1 h2 h3;split at hk
   ·rename_i h4 h5;cases hk;exact Z1 I E ho h1 h4 h5 h2 h3 he
   ·cases hk
  ·rename_i h1 h2 h3;cases hk;exact ZZ I E ho h1 h2 h3 he
  ·cases hk
 |extract x i=>
  rw[ho] at hk;obtain⟨y,hy,rfl⟩:=au.1 hk;exact Zx I E ho hy he
 |makeInterface t x=>
  rw[ho] at hk;simp only[gO] at hk;split at hk
  ·cases hk
  ·rename_i gX h1 h2;cases hk;exact Zz I ho (by rw[h1];rfl) (fun ms h=>by rw[h1] at h;cases h;exact gX _ rfl) he (bT E h2) (fun z hz=>yj (bT E h2) hz)
  ·cases hk
 |call c=>
  rw[ho] at hk;simp only[gO] at hk;obtain⟨callee,args,ats⟩:=c;cases callee with
  |value f=>
   simp only[Ay] at hk;split at hk
   ·cases hk;simp only[aN] at he;cases he
   ·cases hk
  |invoke r m=>simp only[Ay] at hk;cases hk
  |builtin b=>
   simp only[Ay] at hk;split at hk
   ·rename_i x t e1 e2;have lK:args= #[x]:=by simpa using congrArg rG e1
    have rU:ats= #[t]:=by simpa using congrArg rG e2
    subst lK;subst rU;split at hk
    ·rename_i h1 h2;cases hk;exact QB I E ho (.inl ⟨rfl,h1⟩) h2 he
    ·rename_i h1 h2;cases hk;exact QB I E ho (.inr ⟨rfl,_,h1⟩) h2 he
    ·cases hk
   ·rename_i s x t u e1 e2;have lK:args= #[s,x]:=by simpa using congrArg rG e1
    have rU:ats= #[t,u]:=by simpa using congrArg rG e2
    subst lK;subst rU;split at hk
    ·rename_i e du s' x' h1 h2 h3 h4;split at hk
     ·rename_i i hi;split at hk
      ·rename_i z hz;split at hk
       ·rename_i hc;cases hk;simp only[Gz,bQ,decide_eq_true_eq,beq_iff_eq] at hc;obtain⟨⟨c1,c2⟩,c3⟩:=hc;refine aag I E ho h1 h2 ?_ hi hz c2 c3 h3 h4 he;cases du<;>first |(simp at c1;done) |exact .inl ⟨_,rfl⟩ |exact .inr rfl
       ·cases hk
      ·cases hk
     ·cases hk
    ·cases hk
   ·rename_i x e1;have lK:args= #[x]:=by simpa using congrArg rG e1
    subst lK;obtain⟨y,hy,rfl⟩:=au.1 hk;exact aam I E ho bV hy he
   ·rename_i x n t it e1 e2;have lK:args= #[x,n]:=by simpa using congrArg rG e1
    have rU:ats= #[t,it]:=by simpa using congrArg rG e2
    subst lK;subst rU;split at hk
    ·rename_i h1 h2 h3;split at hk
     ·rename_i h4;cases hk;exact aan I E ho h1 (by simpa using h4) h2 h3 he
     ·cases hk
    ·cases hk
   ·rename_i x y e1;have lK:args= #[x,y]:=by simpa using congrArg rG e1
    subst lK;split at hk
    ·rename_i h1 h2;cases hk;exact QA I E (mx:=true) (ts:=ats) ho h1 h2 he
    ·cases hk
   ·rename_i x y e1;have lK:args= #[x,y]:=by simpa using congrArg rG e1
    subst lK;split at hk
    ·rename_i h1 h2;cases hk;exact QA I E (mx:=false) (ts:=ats) ho h1 h2 he
    ·cases hk
   ·cases hk
 |makeMap t r=>
  rw[ho] at hk;cases r with
  |none=>
   simp only[gO] at hk;split at hk
   ·rename_i h1;obtain⟨g,hg,rfl⟩:=au.1 hk;exact aaY I ho he
   ·cases hk
  |some r=>simp[gO] at hk
 |typeAssert x xt t ok=>
  rw[ho] at hk;simp only[gO] at hk;split at hk
  ·cases hk
  ·rename_i gX h1 h2 h3;cases hk;exact aa2 I E ho h1 (fun ms h=>gX ms h) h2 h3 he
  ·cases hk
 |mapUpdate t m k' x=>
  rw[ho] at hk;simp only[gO] at hk;split at hk
  ·rename_i h1 h2 h3 h4;obtain⟨g,hg,rfl⟩:=au.1 hk;exact aa1 I E ho h1 hg h2 h3 h4 he
  ·cases hk
 |insert t m k' x=>
  rw[ho] at hk;simp only[gO] at hk;split at hk
  ·rename_i h1 h2 h3 h4;obtain⟨g,hg,rfl⟩:=au.1 hk;exact Rb I E (.inr ho) h1 hg h2 h3 h4 he
  ·cases hk
 |lookup t m k' ok=>
  rw[ho] at hk;simp only[gO] at hk;split at hk
  ·rename_i h1 h2 h3;split at hk
   ·rename_i hg hz;cases hk;exact aaZ I E ho h1 hg hz h2 h3 he
   ·cases hk
  ·cases hk
 |_=>rw[ho] at hk;cases hk
theorem ql{k:SK}(h:oB P o.op=k)(hc:k.lI=false)(hs:k≠.stuck):gO P o.op=some k:=by
 unfold oB at h;split at h
 ·rename_i r hr;exfalso;unfold Az at hr;split at hr
  ·split at hr<;>cases hr
   ·subst h;simp[SK.lI] at hc
   ·exact hs h.symm
  ·rename_i x _;cases hr;cases hx:aQ x with
   |none=>rw[hx] at h;exact hs h.symm
   |some y=>rw[hx] at h;subst h;simp[SK.lI] at hc
  ·cases hr
 ·split at h
  ·rename_i k' mR;split at h
   ·exact absurd h.symm hs
   ·subst h;exact mR
  ·exact absurd h.symm hs
theorem aa3(I:Inv G γ H w)(E:bh γ env a.tmps){hint:Option SK}{k:SK}(hk:qf P o hint=k)(hc:k.lI=false){d:D}{H':Hp}(he:aN G env H k=some (d,H')):cA P G γ H w a o d H':=by
 have hs:k≠.stuck:=fun e=>by subst e;simp[aN] at he
 unfold qf at hk;split at hk
 ·rename_i bV;rw[hk] at bV;unfold C8 at hk;split at hk
  ·split at hk
   ·rename_i as ts e sz b s x ho iY;subst hk;have fR:=ql iY rfl (fun h=>by cases h);rw[ho] at fR;simp only[gO,Ay] at fR;split at fR<;>try contradiction
    rename_i s0 x0 t u _ e1 e2;have lK:as= #[s0,x0]:=by simpa using congrArg rG e1
    have rU:ts= #[t,u]:=by simpa using congrArg rG e2
    subst lK;subst rU;split at fR
    ·rename_i e0 du s' x' h1 h2 h3 h4;split at fR
     ·rename_i i hi;split at fR
      ·rename_i z hz;split at fR
       ·rename_i eh;cases fR;simp only[Gz,bQ,decide_eq_true_eq,beq_iff_eq] at eh;obtain⟨⟨c1,c2⟩,c3⟩:=eh;refine aaw I E ho h1 h2 ?_ hi hz c2 c3 h3 h4 he;cases du<;>first |(simp at c1;done) |exact .inl ⟨_,rfl⟩ |exact .inr rfl
       ·cases fR
      ·cases fR
     ·cases fR
    ·cases fR
   ·exact uI I E (ql hk hc hs) bV he
  ·split at hk
   ·rename_i as ts e sz b s x ho iY;subst hk;have fR:=ql iY rfl (fun h=>by cases h);rw[ho] at fR;simp only[gO,Ay] at fR;split at fR<;>try contradiction
    rename_i s0 x0 t u _ e1 e2;have lK:as= #[s0,x0]:=by simpa using congrArg rG e1
    have rU:ts= #[t,u]:=by simpa using congrArg rG e2
    subst lK;subst rU;split at fR
    ·rename_i e0 du s' x' h1 h2 h3 h4;split at fR
     ·rename_i i hi;split at fR
      ·rename_i z hz;split at fR
       ·rename_i eh;cases fR;simp only[Gz,bQ,decide_eq_true_eq,beq_iff_eq] at eh;obtain⟨⟨c1,c2⟩,c3⟩:=eh;refine aaC I E ho h1 h2 ?_ hi hz c2 c3 h3 h4 he;cases du<;>first |(simp at c1;done) |exact .inl ⟨_,rfl⟩ |exact .inr rfl
       ·cases fR
      ·cases fR
     ·cases fR
    ·cases fR
   ·exact uI I E (ql hk hc hs) bV he
  ·split at hk
   ·rename_i t len parts ho;split at hk
    ·rename_i e h1;split at hk
     ·rename_i n z ps h2 h3 h4;split at hk
      ·rename_i qT;subst hk;rw[h2] at h4;exact aaJ I E ho h1 h2 h3 h4 qT he
      ·exact uI I E (ql hk hc hs) bV he
     ·exact uI I E (ql hk hc hs) bV he
    ·exact uI I E (ql hk hc hs) bV he
   ·exact uI I E (ql hk hc hs) bV he
  ·split at hk
   ·rename_i t zs ho iY;subst hk;have fR:=ql iY rfl (fun h=>by cases h);rw[ho] at fR;obtain⟨z,hz,hzz⟩:=au.1 fR;cases hzz;exact aat I ho hz he
   ·exact uI I E (ql hk hc hs) bV he
  ·split at hk
   ·rename_i t x0 x ho iY;subst hk;have fR:=ql iY rfl (fun h=>by cases h);rw[ho] at fR;obtain⟨y,hy,hyy⟩:=au.1 fR;cases hyy;exact aav I E ho hy he
   ·exact uI I E (ql hk hc hs) bV he
  ·exact uI I E (ql hk hc hs) bV he
 ·exact absurd hk.symm hs
variable {P : Program} {G : Nat → Option (List PD)} {γ : Gh} {H : Hp} {w : World}
theorem pz{bi ti:Nat→Option Nat}:∀{ds eG:List D},D.ba bi ti ds=some eG→eG.length=ds.length∧∀(i:Nat) d,eG[i]? =some d→∃c,ds[i]? =some c∧c.ren bi ti=some d
 |[],eG,h=>by simp only[D.ba] at h;cases h;exact⟨rfl,fun i d h=>by simp at h⟩
 |c::r,eG,h=>by
  simp only[D.ba] at h;split at h
  ·rename_i x hx;obtain⟨r',hr,rfl⟩:=au.1 h;obtain⟨h1,h2⟩:=pz hr;refine⟨by simp[h1],fun i d hd=>?_⟩
   match i with
   | 0=>simp only[ew,bI] at hd;subst hd;exact⟨c,rfl,hx⟩
   |i+1=>exact h2 i d (by simpa using hd)
  ·cases h
theorem Re{bi ti:Nat→Option Nat}{d d':D}(h:d.ren bi ti=some d')(h1:d.one=true):d'.one=true:=by
 cases d<;>simp only[D.ren] at h<;>first |(simp[D.one] at h1;done) |(cases h;exact h1) |skip
 ·split at h<;>cases h<;>rfl
 ·obtain⟨j,_,rfl⟩:=au.1 h;rfl
 ·split at h
  ·cases h;rfl
  ·cases h
 all_goals obtain⟨j,_,rfl⟩:=au.1 h;rfl
structure Ren (γ1 γ2:Gh) (bi ti:Nat→Option Nat):Prop where
 base:γ2.base=γ1.base
 br:∀b x,γ1.br b=some x→γ2.br b=some x
 mem:Mem.le γ1.mem γ2.mem
 box:∀i j b,bi i=some j→γ1.boxes[i]? =some b→γ2.boxes[j]? =some b
 row:∀(t u:Nat) row,ti t=some u→γ1.rows[t]? =some row→∃dT,γ2.rows[u]? =some dT∧dT.e=row.e∧dT.sz=row.sz∧∀n x,row.st n=some x→dT.st n=some x
theorem yp{γ1 γ2:Gh}{bi ti:Nat→Option Nat}(R:Ren γ1 γ2 bi ti){v:Value}{d:D}(r:aL γ1 v d):∀{d':D},d.ren bi ti=some d'→aL γ2 v d':=by
 induction r with
 |dead v=>intro d' h;simp only[D.ren] at h;cases h;exact .dead v
 |undef=>intro d' h;simp only[D.ren] at h;cases h;exact .undef
 |p v x hx=>intro d' h;simp only[D.ren] at h;cases h;exact .p v x (hx.mono R.mem)
 |cI b n e sz es hb ht hn hx=>intro d' h;simp only[D.ren] at h;cases h;exact .cI b n e sz es (R.base▸hb) (R.br _ _ ht) hn (hx.mono R.mem)
 |bk v t e sz es row r h1 h2 h3 h4 h5 h6=>
  intro d' h;simp only[D.ren] at h;split at h
  ·rename_i u hu;cases h;obtain⟨dT,a1,a2,a3,a4⟩:=R.row t u row hu h1;exact .bk v u e sz es dT r a1 (a2.trans h2) (a3.trans h3) (h4.mono R.mem) (a4 _ _ h5) h6
  ·cases h;exact .p _ _ (h4.mono R.mem)
 |box i off b hb=>
  intro d' h;simp only[D.ren] at h;obtain⟨j,hj,rfl⟩:=au.1 h;exact .box j off b (R.box i j b hj hb)
 |eD g off=>intro d' h;simp only[D.ren] at h;cases h;exact .eD g off
 |ro b o off cs vs hm hr=>intro d' h;simp only[D.ren] at h;cases h;exact .ro b o off cs vs (fun j hj=>R.mem _ _ _ (hm j hj)) (fun j c hc=>⟨(hr j c hc).1.mono R.mem,(hr j c hc).2⟩)
 |agg cs ds hl dE hr ih=>
  intro d' h;simp only[D.ren] at h;obtain⟨eG,hd,rfl⟩:=au.1 h;obtain⟨h1,h2⟩:=pz hd;refine .agg cs eG (hl.trans h1.symm) (fun d bH=>?_) (fun i d hi=>?_)
  ·obtain⟨i,hi⟩:=eC bH;obtain⟨c,a1,a2⟩:=h2 i d hi;exact Re a2 (dE c (bS a1))
  ·obtain⟨c,a1,a2⟩:=h2 i d hi;exact ih i c a1 a2
 |bA cs ds hl hr ih=>
  intro d' h;simp only[D.ren] at h;obtain⟨eG,hd,rfl⟩:=au.1 h;obtain⟨h1,h2⟩:=pz hd;refine .bA cs eG (hl.trans h1.symm) (fun i d hi=>?_);obtain⟨c,a1,a2⟩:=h2 i d hi;exact ih i c a1 a2
 |fn f as cs ds es hl hr kl kr ih C1=>
  intro d' h;simp only[D.ren] at h;split at h
  ·rename_i a' c' ha hc;cases h;obtain⟨h1,h2⟩:=pz ha;obtain⟨h3,h4⟩:=pz hc;refine .fn f as cs a' c' (hl.trans h1.symm) (fun i d hi=>?_) (kl.trans h3.symm) (fun i d hi=>?_)
   ·obtain⟨c,a1,a2⟩:=h2 i d hi;exact ih i c a1 a2
   ·obtain⟨c,a1,a2⟩:=h4 i d hi;exact C1 i c a1 a2
  ·cases h
 |bu i off n cap sz b c hb hc dO=>
  intro d' h;simp only[D.ren] at h;obtain⟨j,hj,rfl⟩:=au.1 h;exact .bu j off n cap sz b c (R.box i j b hj hb) hc dO
 |aB i e n sz b c hb hc hm hk ht=>
  intro d' h;simp only[D.ren] at h;obtain⟨j,hj,rfl⟩:=au.1 h;exact .aB j e n sz b c (R.box i j b hj hb) hc hm hk (R.br _ _ ht)
 |ff a sz=>intro d' h;simp only[D.ren] at h;cases h;exact .ff a sz
 |gK a n sz es hn hx=>intro d' h;simp only[D.ren] at h;cases h;exact .gK a n sz es hn (hx.mono R.mem)
 |eE t v d _ ih=>
  intro d' h;simp only[D.ren] at h;obtain⟨x,hx,rfl⟩:=au.1 h;exact .eE t v x (ih hx)
 |fN b n cap d _ hn hb ih=>
  intro d' h;simp only[D.ren] at h;obtain⟨x,hx,rfl⟩:=au.1 h;exact .fN b n cap x (ih hx) hn (R.base▸hb)
 |iH p=>intro d' h;simp only[D.ren] at h;cases h;exact .iH p
 |fresh T n i b hb ht=>
  intro d' h;simp only[D.ren] at h;obtain⟨j,hj,rfl⟩:=au.1 h;exact .fresh T n j b (R.box i j b hj hb) (R.br _ _ ht)
 |bU i b hb=>
  intro d' h;simp only[D.ren] at h;obtain⟨j,hj,rfl⟩:=au.1 h;exact .bU j b (R.box i j b hj hb)
 |bB as cs kd ks ds s hl kl dl hs hj hg hr hd kr ih=>
  intro d' h;simp only[D.ren] at h;obtain⟨cv,hv,rfl⟩:=au.1 h;obtain⟨h1,h2⟩:=pz hv;refine .bB as cs kd ks cv s hl kl (h1.trans dl) hs hj hg (fun i x hx=>⟨(hr i x hx).1.mono R.mem,(hr i x hx).2⟩) hd (fun i d hi=>?_);obtain⟨c,a1,a2⟩:=h2 i d hi;exact ih i c a1 a2
def Dl:D→Bool
 | .bB _ _ _=>true
 |_=>false
theorem GW(d:D):aU [d]=Dl d:=by cases d<;>rfl
theorem GX(d e:D)(r:List D):aU (d::e::r)=false:=by simp[aU]
theorem aa6{bi ti:Nat→Option Nat}{d d':D}(h:D.ren bi ti d=some d'):Dl d'=Dl d:=by
 cases d with
 |bk t e sz es=>
  simp only[D.ren] at h;split at h<;>cases h<;>rfl
 |fn f a c=>
  simp only[D.ren] at h;split at h<;>cases h;rfl
 |_=>
  first
   |(simp only[D.ren,bI] at h;subst h;rfl)
   |(simp only[D.ren] at h;obtain⟨x,_,rfl⟩:=au.1 h;rfl)
theorem yq{bi ti:Nat→Option Nat}{cs bL:List D}(h:D.ba bi ti cs=some bL):aU bL=aU cs:=by
 match cs with
 |[]=>simp only[D.ba,bI] at h;subst h;rfl
 |[d]=>
  simp only[D.ba] at h;split at h
  ·rename_i x hx;simp only[eA,bI] at h;subst h;rw[GW,GW,aa6 hx]
  ·cases h
 |d::e::r=>
  have hl:=(pz h).1
  match bL,hl with
  |a::b::q,_=>rw[GX,GX]
theorem aa7{γ1 γ2:Gh}{bi ti:Nat→Option Nat}(R:Ren γ1 γ2 bi ti){vs:Array Value}{ds eG:List D}(r:cy γ1 vs ds)(h:D.ba bi ti ds=some eG):cy γ2 vs eG:=by
 obtain⟨h1,h2⟩:=pz h;refine⟨r.1.trans h1.symm,fun i d hi=>?_⟩;obtain⟨c,a1,a2⟩:=h2 i d hi;exact yp R (r.2 i c a1) a2
theorem GY{γ1 γ2:Gh}{bi ti:Nat→Option Nat}(R:Ren γ1 γ2 bi ti){vs:Array Value}{ds eG:List D}(r:eT γ1 vs ds)(h:D.ba bi ti ds=some eG):eT γ2 vs eG:=by
 obtain⟨h1,h2⟩:=pz h;refine⟨by rw[h1];exact r.1,fun i d hi=>?_⟩;obtain⟨c,a1,a2⟩:=h2 i d hi;exact yp R (r.2 i c a1) a2
theorem mf{bi ti:Nat→Option Nat}{ds eG:List D}(h:D.ba bi ti ds=some eG)(hn:eG≠[]):ds≠[]:=by
 obtain⟨h1,_⟩:=pz h;intro e;subst e;exact hn (by simpa using h1)
theorem GZ{bi ti:Nat→Option Nat}{ds eG:List D}(h:D.ba bi ti ds=some eG)(h1:∀d∈ds,d.one=true):∀d∈eG,d.one=true:=by
 obtain⟨_,h2⟩:=pz h;intro d hd;obtain⟨i,hi⟩:=eC hd;obtain⟨c,a1,a2⟩:=h2 i d hi;exact Re a2 (h1 c (bS a1))
theorem G0:∀{l:List Nat} {i j:Nat},idx l i=some j→l[j]? =some i
 |[],i,j,h=>by cases h
 |a::r,i,j,h=>by
  simp only[idx] at h;split at h
  ·rename_i e;cases h;simp[e]
  ·obtain⟨k,hk,rfl⟩:=au.1 h;simpa using G0 hk
theorem Rf:∀{l:List Nat} {i:Nat},idx l i=none→i∉l
 |[],i,h=>by simp
 |a::r,i,h=>by
  simp only[idx] at h;split at h
  ·cases h
  ·rename_i e;have:=Rf (amA.1 h);simp[this];exact fun h=>e h.symm
theorem Ln:∀{l:List Nat},nodupB l=true→l.Nodup
 |[],_=>Kg
 |a::r,h=>by
  simp only[nodupB,bQ,ud,List.contains_eq_mem,decide_eq_false_iff_not] at h;exact vS.2 ⟨h.1,Ln h.2⟩
theorem mU{α:Type}:∀(is:List Nat) (l xs:List α),(cq l is xs).length=l.length
 |[],l,xs=>by simp[cq]
 |i::is,l,[]=>by simp[cq]
 |i::is,l,x::xs=>by simp[cq,mU is]
theorem yr{α:Type}:∀(is:List Nat) (l xs:List α) (i:Nat),i∉is→(cq l is xs)[i]? =l[i]?
 |[],l,xs,i,_=>by simp[cq]
 |k::is,l,[],i,_=>by simp[cq]
 |k::is,l,x::xs,i,h=>by
  simp only[cN,not_or] at h;simp only[cq];rw[yr is _ _ i h.2,dH (Ne.symm h.1)]
theorem Dm{α:Type}:∀(is:List Nat) (l xs:List α) (j i:Nat),is.Nodup→is[j]? =some i→i<l.length→j<xs.length→(cq l is xs)[i]? =xs[j]?
 |[],l,xs,j,i,_,h,_,_=>by simp at h
 |k::is,l,[],j,i,_,_,_,h=>by simp at h
 |k::is,l,x::xs,j,i,hn,hj,hi,hx=>by
  obtain⟨n1,n2⟩:=vS.1 hn;simp only[cq]
  match j with
  | 0=>
   simp only[ew,bI] at hj;subst hj;rw[yr is _ _ k n1];simp[hi]
  |j+1=>
   rw[Dm is _ xs j i n2 (by simpa using hj) (by simpa using hi) (by simpa using hx)];simp
theorem Rg{l:List Nat}(h:l.Nodup){i j a:Nat}(hi:l[i]? =some a)(hj:l[j]? =some a):i=j:=by
 have ah:=(az.1 hi).1;exact(List.getElem?_inj ah h).1 (hi.trans hj.symm)
theorem Rh{α:Type}{l l':List α}{n:Nat}(h:gM l n=some l'):n≤l.length∧l'=l.take n:=by
 unfold gM at h;split at h
 ·rename_i hn;cases h;exact⟨hn,rfl⟩
 ·cases h
def Gh.part(γ:Gh)(ids tks:List Nat):Gh:=
 {base:=γ.base,br:=γ.br,mem:=γ.mem,boxes:=ids.map fun i=>(γ.boxes[i]?).getD 0,rows:=tks.map fun t=>(γ.rows[t]?).getD ⟨0,0,fun _=>none⟩}
theorem Lo{ids tks:List Nat}{j b:Nat}:(γ.part ids tks).boxes[j]? =some b↔∃i,ids[j]? =some i∧(γ.boxes[i]?).getD 0=b:=by
 simp[Gh.part,cP,au]
theorem Lp{ids tks:List Nat}{j:Nat}{row:Row}:(γ.part ids tks).rows[j]? =some row↔∃t,tks[j]? =some t∧(γ.rows[t]?).getD ⟨0,0,fun _=>none⟩=row:=by
 simp[Gh.part,cP,au]
section
variable {ids tks : List Nat} {bx : List (List D)} {tk : List Nat}
 (gX:ids.Nodup) (iZ:tks.Nodup) (bX:aP (fun i=>match H.bx[i]? with |some cs=>D.ba (idx ids) (idx tks) cs |none=>none) ids=some bx) (cw:aP (fun t=>H.tk[t]?) tks=some tk)
include gX iZ bX cw
omit gX iZ cw in
theorem Lq(I:Inv G γ H w){j b:Nat}(h:(γ.part ids tks).boxes[j]? =some b):∃i,ids[j]? =some i∧γ.boxes[i]? =some b:=by
 obtain⟨i,hi,hb⟩:=Lo.1 h;obtain⟨_,m2⟩:=oC bX;obtain⟨y,hy,_⟩:=m2 j i hi;have ah:i<γ.boxes.length:=by
  rw[I.cT];split at hy
  ·rename_i cs ak;exact(az.1 ak).1
  ·cases hy
 rw[aA ah] at hb;exact⟨i,hi,by rw[aA ah];simpa using hb⟩
omit gX iZ bX in
theorem G1(I:Inv G γ H w){j:Nat}{row:Row}(h:(γ.part ids tks).rows[j]? =some row):∃t,tks[j]? =some t∧γ.rows[t]? =some row:=by
 obtain⟨t,hi,hb⟩:=Lp.1 h;obtain⟨_,m2⟩:=oC cw;obtain⟨y,hy,_⟩:=m2 j t hi;have ah:t<γ.rows.length:=by rw[I.fY];exact(az.1 hy).1
 rw[aA ah] at hb;exact⟨t,hi,by rw[aA ah];simpa using hb⟩
omit gX iZ bX in
theorem Lr{j t f:Nat}(h1:tks[j]? =some t)(h2:tk[j]? =some f):H.tk[t]? =some f:=by
 obtain⟨_,m2⟩:=oC cw;obtain⟨y,hy,G2⟩:=m2 j t h1;rw[h2] at G2;cases G2;exact hy
omit gX iZ bX cw in
theorem Ri:Ren γ (γ.part ids tks) (idx ids) (idx tks):=by
 refine⟨rfl,fun _ _ h=>h,fun _ _ _ h=>h,fun i j b h hb=>Lo.2 ⟨i,G0 h,by rw[hb];rfl⟩,fun t u row h hr=>⟨row,Lp.2 ⟨t,G0 h,by rw[hr];rfl⟩,rfl,rfl,fun _ _ h=>h⟩⟩
omit gX iZ cw in
theorem Lt(I:Inv G γ H w){b:Nat}(h:b∈(γ.part ids tks).boxes):b∈γ.boxes:=by
 obtain⟨j,hj⟩:=eC h;obtain⟨i,_,hi⟩:=Lq bX I hj;exact bS hi
omit gX iZ cw in
theorem G3(I:Inv G γ H w){j b:Nat}{cs:List D}(h:(γ.part ids tks).boxes[j]? =some b)(hc:bx[j]? =some cs):∃(i:Nat) (c0:List D),ids[j]? =some i∧γ.boxes[i]? =some b∧H.bx[i]? =some c0∧D.ba (idx ids) (idx tks) c0=some cs:=by
 obtain⟨i,hi,yu⟩:=Lq bX I h;obtain⟨i',h1,h2⟩:=po bX hc;rw[hi] at h1;cases h1;split at h2
 ·rename_i c0 Dn;exact⟨i,c0,hi,yu,Dn,h2⟩
 ·cases h2
omit gX iZ cw in
theorem AK(I:Inv G γ H w){b:Nat}(h:Lv (γ.part ids tks) ⟨bx,tk⟩ b):∃(i j:Nat) (c0:List D),ids[j]? =some i∧γ.boxes[i]? =some b∧H.bx[i]? =some c0∧c0≠[]:=by
 obtain⟨j,cs,h1,h2,h3⟩:=h;obtain⟨i,c0,q1,q2,q3,q4⟩:=G3 bX I h1 h2;exact⟨i,j,c0,q1,q2,q3,mf q4 h3⟩
omit gX iZ bX in
theorem wC(I:Inv G γ H w){j b:Nat}(h:cY (γ.part ids tks) ⟨bx,tk⟩ j b):∃t,tks[j]? =some t∧cY γ H t b:=by
 obtain⟨row,f,cap,h1,h2,h3,h4⟩:=h;obtain⟨t,ht,hr⟩:=G1 cw I h1;exact⟨t,ht,row,f,cap,hr,Lr cw ht h2,h3,h4⟩
theorem aa8(I:Inv G γ H w):Inv G (γ.part ids tks) ⟨bx,tk⟩ w:=by
 have hR:=Ri (γ:=γ) (ids:=ids) (tks:=tks);constructor
 ·exact I.size
 ·exact I.br
 ·intro j row n b cap h1 h2;obtain⟨t,_,hr⟩:=G1 cw I h1;exact I.iV t row n b cap hr h2
 ·exact I.mem
 ·exact I.jQ
 ·simp[Gh.part,(oC bX).1]
 ·intro j k b cj ck h1 h2 h3 h4 n1 n2;obtain⟨i,c0,q1,q2,q3,q4⟩:=G3 bX I h1 h3;obtain⟨i',c1,r1,r2,r3,r4⟩:=G3 bX I h2 h4;have:=I.nodup i i' b c0 c1 q2 r2 q3 r3 (mf q4 n1) (mf r4 n2);subst this;exact Rg gX q1 r1
 ·intro j b cs hb hc;obtain⟨i,hi,yu⟩:=Lq bX I hb;have hc:bx[j]? =some cs:=hc;obtain⟨i',h1,h2⟩:=po bX hc;rw[hi] at h1;cases h1;split at h2
  ·rename_i mV aa9;obtain⟨vs,T,fr,q1,q2,q3,q4⟩:=I.box i b mV yu aa9;exact⟨vs,T,fr,(Gm (yq h2) _).trans q1,GY hR q2 h2,fun hm=>GZ h2 (q3 ((yq h2).symm.trans hm)),fun hn=>q4 (mf h2 hn)⟩
  ·cases h2
 ·intro b o hb;obtain⟨i,_,c0,_,h1,h2,h3⟩:=AK bX I hb;exact I.iw b o ⟨i,c0,h1,h2,h3⟩
 ·intro j b h1 h2;obtain⟨i,c0,q1,q2,q3,q4⟩:=G3 bX I h1 h2;have h0:c0=[]:=by
   cases c0 with
   |nil=>rfl
   |cons d r=>have:=(pz q4).1;simp at this
  subst h0;exact I.jE i b q2 q3
 ·simp[Gh.part,(oC cw).1]
 ·intro j row f h1 h2;obtain⟨t,ht,hr⟩:=G1 cw I h1;obtain⟨r,q1,q2⟩:=I.row t row f hr (Lr cw ht h2);exact⟨r,q1,q2.keep (fun _ _ h=>h) (fun _ _ _ _=>rfl) (fun _ _ _ _ _=>rfl) (fun b cap _ _ hb cb=>hb (Lt bX I cb))⟩
 ·intro j row f h1 h2;obtain⟨t,ht,hr⟩:=G1 cw I h1;exact I.jR t row f hr (Lr cw ht h2)
 ·intro j k b h h';obtain⟨t,h1,h2⟩:=wC cw I h;obtain⟨t',h3,h4⟩:=wC cw I h';have:=I.free t t' b h2 h4;subst this;exact Rg iZ h1 h3
def Gh.whole(γ γl:Gh)(ids tks:List Nat)(kept:Bool):Gh:=
 {base:=γ.base,br:=γl.br,mem:=γl.mem,boxes:=γ.boxes++(if kept then γl.boxes.drop ids.length else[]),rows:=cq γ.rows tks (γl.rows.take tks.length)}
omit gX bX cw iZ in
theorem G4{γl:Gh}{kept:Bool}(iZ:tks.Nodup){j t:Nat}(hj:tks[j]? =some t)(ht:t<γ.rows.length)(hl:tks.length≤γl.rows.length):(γ.whole γl ids tks kept).rows[t]? =γl.rows[j]?:=by
 have jS:=(az.1 hj).1;simp only[Gh.whole];rw[Dm tks γ.rows _ j t iZ hj ht (by simp;omega),j7,if_pos jS]
theorem Rj(I:Inv G γ H w){γl:Gh}{Hl:Hp}{w':World}(L:(γ.part ids tks).le γl)(F:Frame (γ.part ids tks) ⟨bx,tk⟩ w γl Hl w')(J:Inv G γl Hl w')(kept:Bool){mM nw:List (List D)}{bi:Nat→Option Nat}
    (hm:ids.length≤Hl.bx.length) (ht:tks.length≤Hl.tk.length)
    (yu:∀i j,bi i=some j→(i<ids.length∧ids[i]? =some j)∨(kept=true∧ids.length≤i∧j=H.bx.length+(i-ids.length)))
    (hb:aP (D.ba bi fun t=>tks[t]?) (Hl.bx.take ids.length)=some mM) (hn:if kept then aP (D.ba bi fun t=>tks[t]?) (Hl.bx.drop ids.length)=some nw else nw=[]):
    Ren γl (γ.whole γl ids tks kept) bi (fun t=>tks[t]?)∧γ.le (γ.whole γl ids tks kept)∧Frame γ H w (γ.whole γl ids tks kept) ⟨cq H.bx ids mM++nw,cq H.tk tks (Hl.tk.take tks.length)⟩ w'∧
     Inv G (γ.whole γl ids tks kept) ⟨cq H.bx ids mM++nw,cq H.tk tks (Hl.tk.take tks.length)⟩ w':=by
 have nJ:γl.boxes.length=Hl.bx.length:=J.cT;have ah:γl.rows.length=Hl.tk.length:=J.fY;have uJ:∀(j i:Nat),ids[j]? =some i→i<γ.boxes.length:=fun j i h=>by
  obtain⟨_,m2⟩:=oC bX;obtain⟨y,hy,_⟩:=m2 j i h;rw[I.cT];split at hy
  ·rename_i cs ak;exact(az.1 ak).1
  ·cases hy
 have Dp:∀(j t:Nat),tks[j]? =some t→t<γ.rows.length:=fun j t h=>by
  obtain⟨_,m2⟩:=oC cw;obtain⟨y,hy,_⟩:=m2 j t h;rw[I.fY];exact(az.1 hy).1
 have hold:∀(j i:Nat),ids[j]? =some i→∃b,γ.boxes[i]? =some b∧γl.boxes[j]? =some b:=fun j i h=>by
  have hi:=uJ j i h;refine⟨γ.boxes[i],aA hi,L.boxes j _ (Lo.2 ⟨i,h,by rw[aA hi];rfl⟩)⟩
 have mT:∀b,Lv γl Hl b→(∃(i j:Nat) (c0:List D),ids[j]? =some i∧γ.boxes[i]? =some b∧H.bx[i]? =some c0∧c0≠[])∨w.heap.size≤b:=fun b hb=>by
  rcases F.box b hb with h |h
  ·exact .inl (AK bX I h)
  ·exact .inr h
 have fA:mM.length=ids.length:=by rw[(oC hb).1];simp;omega
 have tA:∀(m b:Nat) cs,(γ.whole γl ids tks kept).boxes[m]? =some b→(cq H.bx ids mM++nw)[m]? =some cs→
     (∃(k:Nat) (c0:List D),γl.boxes[k]? =some b∧Hl.bx[k]? =some c0∧D.ba bi (fun t=>tks[t]?) c0=some cs∧((k<ids.length∧ids[k]? =some m)∨(kept=true∧ids.length≤k∧m=H.bx.length+(k-ids.length))))∨(m∉ids∧γ.boxes[m]? =some b∧H.bx[m]? =some cs):=fun m b cs h1 h2=>by
  simp only[Gh.whole] at h1;by_cases hi:m<γ.boxes.length
  ·rw[cH hi] at h1;rw[cH (by rw[mU,←I.cT];exact hi)] at h2;by_cases ei:m∈ids
   ·obtain⟨k,hk⟩:=eC ei;have jG:=(az.1 hk).1;rw[Dm ids H.bx mM k m gX hk (by rw[←I.cT];exact hi) (by omega)] at h2;obtain⟨c0,a1,a2⟩:=po hb h2;rw[j7,if_pos jG] at a1;obtain⟨b',c1,c2⟩:=hold k m hk;rw[h1] at c1;cases c1;exact .inl ⟨k,c0,c2,a1,a2,.inl ⟨jG,hk⟩⟩
   ·rw[yr ids _ _ m ei] at h2;exact .inr ⟨ei,h1,h2⟩
  ·rw[eL (by omega)] at h1;rw[eL (by rw[mU,←I.cT];omega),mU,←I.cT] at h2;cases kept with
   |false=>simp at h1
   |true=>
    simp only[if_true] at h1 hn;rw[oZ] at h1;obtain⟨c0,a1,a2⟩:=po hn h2;rw[oZ] at a1;exact .inl ⟨_,c0,h1,a1,a2,.inr ⟨rfl,by omega,by rw[←I.cT];omega⟩⟩
 have Rk:∀b,Lv (γ.whole γl ids tks kept) ⟨cq H.bx ids mM++nw,cq H.tk tks (Hl.tk.take tks.length)⟩ b→Lv γl Hl b∨∃(m:Nat) (cs:List D),m∉ids∧γ.boxes[m]? =some b∧H.bx[m]? =some cs∧cs≠[]:=fun b h=>by
  obtain⟨m,cs,h1,h2,h3⟩:=h;rcases tA m b cs h1 h2 with⟨k,c0,a1,a2,a3,_⟩ |⟨a1,a2,a3⟩
  ·exact .inl ⟨k,c0,a1,a2,mf a3 h3⟩
  ·exact .inr ⟨m,cs,a1,a2,a3,h3⟩
 have Rm:∀(m b:Nat) cs,m∉ids→γ.boxes[m]? =some b→H.bx[m]? =some cs→cs≠[]→¬Lv γl Hl b:=fun m b cs h1 h2 h3 h4 h=>by
  rcases mT b h with⟨i,j,c0,a1,a2,a3,a4⟩ |h
  ·have:=I.nodup m i b cs c0 h2 a2 h3 a3 h4 a4;subst this;exact h1 (bS a1)
  ·have:=I.mP (bS h2);omega
 have Rn:∀b,b∈(γ.whole γl ids tks kept).boxes→b∈γ.boxes∨(kept=true∧∃j,ids.length≤j∧γl.boxes[j]? =some b):=fun b h=>by
  simp only[Gh.whole] at h;rcases cW.1 h with h |h
  ·exact .inl h
  ·cases kept with
   |false=>simp at h
   |true=>
    simp only[if_true] at h;obtain⟨j,hj⟩:=eC h;rw[oZ] at hj;exact .inr ⟨rfl,ids.length+j,by omega,hj⟩
 have Ro:∀b,b∈(γ.whole γl ids tks kept).boxes→b∈γ.boxes∨w.heap.size≤b:=fun b h=>by
  rcases Rn b h with h |⟨_,j,_,h2⟩
  ·exact .inl h
  ·rcases F.uw b (bS h2) with h |h
   ·exact .inl (Lt bX I h)
   ·exact .inr h
 have Lu:∀(t:Nat) row f,(γ.whole γl ids tks kept).rows[t]? =some row→(cq H.tk tks (Hl.tk.take tks.length))[t]? =some f→
     (∃j,tks[j]? =some t∧γl.rows[j]? =some row∧Hl.tk[j]? =some f)∨(t∉tks∧γ.rows[t]? =some row∧H.tk[t]? =some f):=fun t row f h1 h2=>by
  by_cases ei:t∈tks
  ·obtain⟨j,hj⟩:=eC ei;have jS:=(az.1 hj).1;have hl:=Dp j t hj;rw[G4 iZ hj hl (by omega)] at h1;rw[Dm tks H.tk _ j t iZ hj (by rw[←I.fY];exact hl) (by simp;omega),j7,if_pos jS] at h2;exact .inl ⟨j,hj,h1,h2⟩
  ·simp only[Gh.whole] at h1;rw[yr tks _ _ t ei] at h1 h2;exact .inr ⟨ei,h1,h2⟩
 have G5:∀t b,cY (γ.whole γl ids tks kept) ⟨cq H.bx ids mM++nw,cq H.tk tks (Hl.tk.take tks.length)⟩ t b→
     (∃j,tks[j]? =some t∧cY γl Hl j b)∨(t∉tks∧cY γ H t b):=fun t b h=>by
  obtain⟨row,f,cap,h1,h2,h3,h4⟩:=h;rcases Lu t row f h1 h2 with⟨j,a1,a2,a3⟩ |⟨a1,a2,a3⟩
  ·exact .inl ⟨j,a1,row,f,cap,a2,a3,h3,h4⟩
  ·exact .inr ⟨a1,row,f,cap,a2,a3,h3,h4⟩
 have rV:∀j b,cY γl Hl j b→(∃t,tks[j]? =some t∧cY γ H t b)∨w.heap.size≤b:=fun j b h=>by
  rcases F.uv j b h with h |h
  ·exact .inl (wC cw I h)
  ·exact .inr h
 have Rp:∀b,kE (γ.part ids tks) ⟨bx,tk⟩ b→kE γ H b:=fun b h=>by
  rcases h with h |⟨j,h⟩
  ·obtain⟨i,_,c0,_,h1,h2,h3⟩:=AK bX I h;exact .inl ⟨i,c0,h1,h2,h3⟩
  ·obtain⟨t,_,h⟩:=wC cw I h;exact .inr ⟨t,h⟩
 have hle:γ.le (γ.whole γl ids tks kept):=by
  refine⟨rfl,L.br,L.mem,fun i b h=>?_,fun t r h=>?_⟩
  ·simp only[Gh.whole];rw[cH (az.1 h).1];exact h
  ·by_cases ei:t∈tks
   ·obtain⟨j,hj⟩:=eC ei;have hl:=Dp j t hj;rw[G4 iZ hj hl (by have:=(az.1 hj).1;omega)];exact L.rows j r (Lp.2 ⟨t,hj,by rw[h];rfl⟩)
   ·refine⟨r,?_,rfl,rfl,fun _ _ h=>h⟩;simp only[Gh.whole];rw[yr tks _ _ t ei];exact h
 have hR:Ren γl (γ.whole γl ids tks kept) bi (fun t=>tks[t]?):=by
  refine⟨L.base.symm,fun _ _ h=>h,fun _ _ _ h=>h,fun i j b h cb=>?_,fun t u row h hr=>?_⟩
  ·rcases yu i j h with⟨h1,h2⟩ |⟨h1,h2,h3⟩
   ·obtain⟨b',c1,c2⟩:=hold i j h2;rw[cb] at c2;cases c2;exact hle.boxes _ _ c1
   ·subst h1;subst h3;simp only[Gh.whole,if_true];rw[←I.cT,eL (by omega),oZ];have :ids.length+(γ.boxes.length+(i-ids.length)-γ.boxes.length)=i:=by omega
    rw[this];exact cb
  ·have h:tks[t]? =some u:=h;refine⟨row,?_,rfl,rfl,fun _ _ h=>h⟩;rw[G4 iZ h (Dp t u h) (by have:=(az.1 h).1;omega)];exact hr
 refine⟨hR,hle,⟨F.os,F.tape,F.output,F.size,fun b cb ho=>F.bP b cb fun h=>ho (Rp b h),fun b o cb ho=>F.mem b o cb fun h=>ho (Rp b h),fun b h=>?_,fun t b h=>?_,Ro⟩,?_⟩
 ·rcases Rk b h with h |⟨m,cs,_,h1,h2,h3⟩
  ·rcases mT b h with⟨i,_,c0,_,h1,h2,h3⟩ |h
   ·exact .inl ⟨i,c0,h1,h2,h3⟩
   ·exact .inr h
  ·exact .inl ⟨m,cs,h1,h2,h3⟩
 ·rcases G5 t b h with⟨j,h1,h2⟩ |⟨_,h2⟩
  ·rcases rV j b h2 with⟨t',h3,h4⟩ |h3
   ·rw[h1] at h3;cases h3;exact .inl h4
   ·exact .inr h3
  ·exact .inl h2
 ·constructor
  ·exact gA I.size F.size
  ·exact J.br
  ·intro t row n b cap h1 h2;by_cases ei:t∈tks
   ·obtain⟨j,hj⟩:=eC ei;rw[G4 iZ hj (Dp j t hj) (by have:=(az.1 hj).1;omega)] at h1;have:=J.iV j row n b cap h1 h2;have hb:γl.base=γ.base:=L.base;show γ.base≤b;omega
   ·simp only[Gh.whole] at h1;rw[yr tks _ _ t ei] at h1;exact I.iV t row n b cap h1 h2
  ·exact J.mem
  ·exact J.jQ
  ·simp only[Gh.whole,iq,mU,I.cT];congr 1
   cases kept with
   |false=>simp only[ob,if_false] at hn⊢;simp[hn]
   |true=>
    simp only[if_true] at hn⊢;rw[(oC hn).1];simp[nJ]
  ·intro m m' b cm G6 h1 h2 h3 h4 n1 n2;rcases tA m b cm h1 h3 with⟨k,c0,a1,a2,a3,a4⟩ |⟨a1,a2,a3⟩
   ·rcases tA m' b G6 h2 h4 with⟨k',Lw,b1,b2,b3,b4⟩ |⟨b1,b2,b3⟩
    ·have:=J.nodup k k' b c0 Lw a1 b1 a2 b2 (mf a3 n1) (mf b3 n2);subst this;rcases a4 with⟨e1,e2⟩ |⟨e1,e2,e3⟩
     ·rcases b4 with⟨f1,f2⟩ |⟨f1,f2,f3⟩
      ·rw[e2] at f2;exact oi f2
      ·omega
     ·rcases b4 with⟨f1,f2⟩ |⟨f1,f2,f3⟩
      ·omega
      ·omega
    ·exact(Rm m' b G6 b1 b2 b3 n2 ⟨k,c0,a1,a2,mf a3 n1⟩).elim
   ·rcases tA m' b G6 h2 h4 with⟨k',Lw,b1,b2,b3,b4⟩ |⟨b1,b2,b3⟩
    ·exact(Rm m b cm a1 a2 a3 n1 ⟨k',Lw,b1,b2,mf b3 n2⟩).elim
    ·exact I.nodup m m' b cm G6 a2 b2 a3 b3 n1 n2
  ·intro i b cs cb hc;rcases tA i b cs cb hc with⟨k,c0,a1,a2,h2,_⟩ |⟨ei,a1,a2⟩
   ·obtain⟨vs,T,fr,q1,q2,q3,q4⟩:=J.box k b c0 a1 a2;exact⟨vs,T,fr,(Gm (yq h2) _).trans q1,GY hR q2 h2,fun hm=>GZ h2 (q3 ((yq h2).symm.trans hm)),fun hn=>q4 (mf h2 hn)⟩
   ·by_cases h0:cs=[]
    ·subst h0;obtain⟨x,hx⟩:=I.jE i b a1 a2;obtain⟨vs,fr,q1,_⟩:=J.br b x.1 x.2 (L.br _ _ hx);exact⟨vs,x.1/2,fr,by rw[iU rfl];exact q1,⟨b9 _,fun i d hd=>by simp at hd⟩,fun _ c hc=>by simp at hc,fun h=>(h rfl).elim⟩
    obtain⟨vs,T,fr,q1,q2,q3,q4⟩:=I.box i b cs a1 a2;have eU:¬kE (γ.part ids tks) ⟨bx,tk⟩ b:=by
     rintro (h |⟨j,h⟩)
     ·obtain⟨i',j',c1,h1,h2,h3,h4⟩:=AK bX I h;have:=I.nodup i i' b cs c1 a1 h2 a2 h3 h0 h4;subst this;exact ei (bS h1)
     ·obtain⟨t,_,row,f,cap,h1,h2,h3,h4⟩:=wC cw I h;obtain⟨r,p1,p2⟩:=I.row t row f h1 h2;rw[h3] at p1;cases p1;obtain⟨_,_,_,_,_,_,_,fZ⟩:=p2.2 h4;exact fZ (bS a1)
    have mW:=bS a1;rcases(F.bP b (I.mP mW) eU).2 with e |⟨us,U,rO,Lx,e1,e2,e3⟩
    ·exact⟨vs,T,fr,by rw[e];exact q1,q2.mono hle,q3,q4⟩
    ·have hm:aU cs=false:=by
      cases hm:aU cs with
      |false=>rfl
      |true=>rw[e1] at q1;simp[oz,hm] at q1
     rw[iU hm] at q1;rw[q1] at e1;cases e1;refine⟨vs,T,Lx,(iU hm _).trans e2,q2.mono hle,q3,fun hn k hk bW hf=>?_⟩;rcases e3 k bW hf with q |q
     ·exact q4 hn k hk bW q
     ·exact q ((F.mem b k (I.mP mW) eU).trans (I.iw b k ⟨i,cs,a1,a2,h0⟩))
  ·intro b o cb;rcases Rk b cb with h |⟨m,cs,h1,h2,h3,h4⟩
   ·exact J.iw b o h
   ·have eU:¬kE (γ.part ids tks) ⟨bx,tk⟩ b:=by
     rintro (h' |⟨j,h'⟩)
     ·obtain⟨i',j',c1,g1,g2,g3,g4⟩:=AK bX I h';have:=I.nodup m i' b cs c1 h2 g2 h3 g3 h4 g4;subst this;exact h1 (bS g1)
     ·obtain⟨t,_,row,f,cap,g1,g2,g3,g4⟩:=wC cw I h';obtain⟨r,p1,p2⟩:=I.row t row f g1 g2;rw[g3] at p1;cases p1;obtain⟨_,_,_,_,_,_,_,fZ⟩:=p2.2 g4;exact fZ (bS h2)
    have:=F.mem b o (I.mP (bS h2)) eU;show γl.mem b o=none;rw[this];exact I.iw b o ⟨m,cs,h2,h3,h4⟩
  ·intro i b h1 h2;rcases tA i b [] h1 h2 with⟨k,c0,a1,a2,a3,_⟩ |⟨_,a1,a2⟩
   ·have h0:c0=[]:=by
     cases c0 with
     |nil=>rfl
     |cons d r=>have:=(pz a3).1;simp at this
    subst h0;exact J.jE k b a1 a2
   ·obtain⟨x,hx⟩:=I.jE i b a1 a2;exact⟨x,L.br _ _ hx⟩
  ·simp[Gh.whole,mU,I.fY]
  ·intro t row f h1 h2;rcases Lu t row f h1 h2 with⟨j,a1,a2,a3⟩ |⟨a1,a2,a3⟩
   ·obtain⟨r,q1,q2⟩:=J.row j row f a2 a3;refine⟨r,q1,q2.keep (fun _ _ h=>h) (fun _ _ _ _=>rfl) (fun _ _ _ _ _=>rfl) (fun b cap hr ah fZ cb=>?_)⟩;rcases Rn b cb with h |⟨_,k,_,h⟩
    ·rcases rV j b ⟨row,f,cap,a2,a3,hr▸q1,ah⟩ with⟨t',_,dT,f',kH,c1,c2,c3,c4⟩ |h'
     ·obtain⟨r',p1,p2⟩:=I.row t' dT f' c1 c2;rw[c3] at p1;cases p1;obtain⟨_,_,_,_,_,_,_,Ly⟩:=p2.2 c4;exact Ly h
     ·have:=I.mP h;omega
    ·exact fZ (bS h)
   ·obtain⟨r,q1,q2⟩:=I.row t row f a2 a3;have eU:∀b cap,r=some (b,cap)→f<cap→¬kE (γ.part ids tks) ⟨bx,tk⟩ b:=by
     intro b cap hr ah;subst hr;obtain⟨_,_,_,_,_,_,_,fZ⟩:=q2.2 ah;rintro (h |⟨j,h⟩)
     ·exact fZ (Lt bX I h.mem)
     ·obtain⟨t',h3,h4⟩:=wC cw I h;have:=I.free t t' b ⟨row,f,cap,a2,a3,q1,ah⟩ h4;subst this;exact a1 (bS h3)
    have LA:∀b cap,r=some (b,cap)→f<cap→b<w.heap.size:=fun b cap hr ah=>I.nE ⟨row,f,cap,a2,a3,hr▸q1,ah⟩;refine⟨r,q1,q2.Qj L.br (fun b cap hr ah=>(F.bP b (LA b cap hr ah) (eU b cap hr ah)).2) (fun b cap hr ah o=>F.mem b o (LA b cap hr ah) (eU b cap hr ah)) (fun b cap hr ah fZ cb=>?_)⟩;rcases Ro b cb with h |h
    ·exact fZ h
    ·have:=LA b cap hr ah;omega
  ·intro t row f h1 h2;rcases Lu t row f h1 h2 with⟨j,a1,a2,a3⟩ |⟨a1,a2,a3⟩
   ·exact J.jR j row f a2 a3
   ·exact I.jR t row f a2 a3
  ·intro t t' b h h';rcases G5 t b h with⟨j,h1,h2⟩ |⟨h1,h2⟩
   ·rcases G5 t' b h' with⟨j',h3,h4⟩ |⟨h3,h4⟩
    ·have:=J.free j j' b h2 h4;subst this;rw[h1] at h3;cases h3;rfl
    ·rcases rV j b h2 with⟨t2,h5,h6⟩ |h5
     ·have:=I.free t2 t' b h6 h4;subst this;exact(h3 (bS h5)).elim
     ·have:=I.nE h4;omega
   ·rcases G5 t' b h' with⟨j',h3,h4⟩ |⟨h3,h4⟩
    ·rcases rV j' b h4 with⟨t2,h5,h6⟩ |h5
     ·have:=I.free t t2 b h2 h6;subst this;exact(h1 (bS h5)).elim
     ·have:=I.nE h2;omega
    ·exact I.free t t' b h2 h4
end
end Go.Vs
namespace Go.Vs
variable {P : Program} {W : World} {G : Nat → Option (List PD)} {γ : Gh} {H : Hp} {w : World} {env : Env} {a : Act} {o : Oper}
structure bD (W:World) (G:Nat→Option (List PD)) (γ:Gh) (H:Hp) (w:World):Prop extends Inv G γ H w where
 Dq:γ.base=W.heap.size
 nM:RowKit.Below W.heap.size W w
 own:∀b,kE γ H b→W.heap.size≤b
theorem bD.up{γ':Gh}{H':Hp}{w':World}(I:bD W G γ H w)(L:γ.le γ')(F:Frame γ H w γ' H' w')(J:Inv G γ' H' w'):bD W G γ' H' w':=by
 have hb:=I.nM.size;refine⟨J,L.base.trans I.Dq,⟨F.os.trans I.nM.os,F.tape.trans I.nM.tape,F.output.trans I.nM.output,gA hb F.size,fun k hk=>?_⟩,fun b h=>?_⟩
 ·have hn:¬kE γ H k:=fun h=>by have:=I.own k h;omega
  have bW:k<W.heap.size:=hk;exact((F.bP k (by omega) hn).1 (by rw[I.Dq];exact bW)).trans (I.nM.block k hk)
 ·rcases F.own b h with q |q
  ·exact I.own b q
  ·omega
def jU(γ:Gh)(r:bt)(e:Ending):Prop:=
 match r with
 | .val d=>∃v,e= .returned v∧aL γ v d
 | .bR d=>∃v,e= .panicked [{v,recovered:=false}]∧aL γ v d
def Enters(P:Program)(f:Nat):Prop:=∃fn,P.funcs[f]? =some fn∧(fn.name== "runtime.NumGoroutine")=false∧fn.body.isNone=false
def yv(P:Program)(W:World)(G:Nat→Option (List PD))(f:Nat)(args:List D)(H:Hp)(r:bt)(H':Hp):Prop:=
 Enters P f∧∀γ w vs,bD W G γ H w→cy γ vs args→Calls P f vs w fun e w'=>∃γ',γ.le γ'∧Frame γ H w γ' H' w'∧bD W G γ' H' w'∧jU γ' r e
def Sound(P:Program)(W:World)(G:Nat→Option (List PD))(c:bC):Prop:=∀f args H r H',c f args H=some (r,H')→yv P W G f args H r H'
theorem LB{γ1 γ2:Gh}{bi ti:Nat→Option Nat}(R:Ren γ1 γ2 bi ti){r r':bt}(h:r.ren bi ti=some r'){e:Ending}(he:jU γ1 r e):jU γ2 r' e:=by
 cases r with
 |val d=>
  obtain⟨d',hd,rfl⟩:=au.1 h;obtain⟨v,rfl,hv⟩:=he;exact⟨v,rfl,yp R hv hd⟩
 |bR d=>
  obtain⟨d',hd,rfl⟩:=au.1 h;obtain⟨v,rfl,hv⟩:=he;exact⟨v,rfl,yp R hv hd⟩
theorem aba{ids tks:List Nat}{bx:List (List D)}{tk:List Nat}(gX:ids.Nodup)(iZ:tks.Nodup)(bX:aP (fun i=>match H.bx[i]? with |some cs=>D.ba (idx ids) (idx tks) cs |none=>none) ids=some bx)(cw:aP (fun t=>H.tk[t]?) tks=some tk)(I:bD W G γ H w):bD W G (γ.part ids tks) ⟨bx,tk⟩ w:=by
 refine⟨aa8 gX iZ bX cw I.toInv,I.Dq,I.nM,fun b h=>I.own b ?_⟩;rcases h with h |⟨j,h⟩
 ·obtain⟨i,_,c0,_,h1,h2,h3⟩:=AK bX I.toInv h;exact .inl ⟨i,c0,h1,h2,h3⟩
 ·obtain⟨t,_,h⟩:=wC cw I.toInv h;exact .inr ⟨t,h⟩
theorem Rq{C:Array Value→World→(Ending→World→Prop)→Prop}(Cm:∀vs w (R R':Ending→World→Prop),C vs w R→(∀e w',R e w'→R' e w')→C vs w R'){c:bC}{f:Nat}
    (S:∀args H r H',c f args H=some (r,H')→∀γ w vs,bD W G γ H w→cy γ vs args→C vs w fun e w'=>∃γ',γ.le γ'∧Frame γ H w γ' H' w'∧bD W G γ' H' w'∧jU γ' r e)
    {args:List D} {H:Hp} {r:bt} {H':Hp} (h:av c f args H=some (r,H')):∀γ w vs,bD W G γ H w→cy γ vs args→C vs w fun e w'=>∃γ',γ.le γ'∧Frame γ H w γ' H' w'∧bD W G γ' H' w'∧jU γ' r e:=by
 unfold av at h;dsimp only at h;generalize uJ:reach H H.bx.length (ins [] (D.aD args))=ids at h;generalize Dp:ins [] (D.bz args++fX H ids)=tks at h;split at h
 ·rename_i hn;have gX:=Ln (CR.1 hn).1;have iZ:=Ln (CR.1 hn).2;split at h
  ·rename_i as bx tk h1 h2 h3;split at h
   ·rename_i rl Hl hc;intro γ w vs I r0;refine Cm _ _ _ _ (S as ⟨bx,tk⟩ rl Hl hc (γ.part ids tks) w vs (aba gX iZ h2 h3 I) (aa7 Ri r0 h1)) ?_;rintro e w' ⟨γl,L,F,J,E⟩;unfold back at h;split at h
    ·rename_i bxc tkc ai aC;obtain⟨m1,rfl⟩:=Rh ai;obtain⟨m2,rfl⟩:=Rh aC;dsimp only at h;split at h
     ·rename_i r' mM q1 q2;cases h;obtain⟨R,w1,w2,w3⟩:=Rj gX iZ h2 h3 I.toInv L F J.toInv false (bi:=fun i=>ids[i]?) m1 m2 (fun i j cQ=>.inl ⟨(az.1 cQ).1,cQ⟩) q2 (nw:=[]) rfl;simp only[lA] at w2 w3;exact⟨_,w1,w2,I.up w1 w2 w3,LB R q1 E⟩
     ·split at h
      ·rename_i r' mM n0 nw q1 q2 q3;cases h;obtain⟨R,w1,w2,w3⟩:=Rj gX iZ h2 h3 I.toInv L F J.toInv true (bi:=fun i=>if i<ids.length then ids[i]? else some (H.bx.length+(i-ids.length))) m1 m2 (fun i j cQ=>by
        split at cQ
        ·rename_i ah;exact .inl ⟨ah,cQ⟩
        ·rename_i kZ;cases cQ;exact .inr ⟨rfl,by omega,rfl⟩) q2 (nw:=n0::nw) q3
       exact⟨_,w1,w2,I.up w1 w2 w3,LB R q1 E⟩
      ·cases h
    ·cases h
   ·cases h
  ·cases h
 ·cases h
theorem abb{c:bC}(S:Sound P W G c){f:Nat}{args:List D}{H:Hp}{r:bt}{H':Hp}(h:av c f args H=some (r,H')):Enters P f:=by
 unfold av at h;dsimp only at h;split at h
 ·split at h
  ·split at h
   ·rename_i hc;exact(S f _ _ _ _ hc).1
   ·cases h
  ·cases h
 ·cases h
theorem abc{c:bC}(S:Sound P W G c){f:Nat}{args:List D}{H:Hp}{r:bt}{H':Hp}(h:av c f args H=some (r,H')):yv P W G f args H r H':=
 ⟨abb S h,Rq (C:=fun vs w R=>Calls P f vs w R) (fun _ _ _ _ h q=>h.mono q) (fun as H r H' hc=>(S f as H r H' hc).2) h⟩
theorem LC{f:Nat}(h:Enters P f)(args:Array Value)(w:World):(callFunc f args).run P w= .ok (.enter f args) w:=by
 obtain⟨fn,h1,h2,h3⟩:=h;unfold callFunc;simp only[Sem.run_bind,run_program,Result.andThen_ok,h1,h2,h3,ob,if_false,Sem.run_pure]
theorem cy.append{γ:Gh}{a b:Array Value}{x y:List D}(h:cy γ a x)(k:cy γ b y):cy γ (a++b) (x++y):=by
 refine⟨by simp[h.1,k.1],fun i d hd=>?_⟩;have h1:=h.1;by_cases hi:i<x.length
 ·rw[cH hi] at hd;have:=h.2 i d hd;have e:(a++b).getD i undef=a.getD i undef:=by simp[bN,Ah,h1,hi]
  rw[e];exact this
 ·rw[eL (by omega)] at hd;have:=k.2 _ d hd;have e:(a++b).getD i undef=b.getD (i-x.length) undef:=by
   simp only[bN];rw[YC (by omega),h1]
  rw[e];exact this
theorem abd{c:bC}(S:Sound P W G c)(I:bD W G γ H w)(E:bh γ env a.tmps){f:Operand}{args:Array Operand}{ts:Array TypeId}(ho:o.op= .call {callee:=.value f,args,argTypes:=ts}){f':aw}{LD:List aw}(hf:aQ f=some f')
    (ha:aP aQ args.toList=some LD) {r:bt} {H':Hp} (he:p9 c (f'.ev env) (LD.map (·.ev env)) H=some (r,H')) {K:Act→World→Prop} {Q:Exit→Act→World→Prop}
    (hK:∀v γ' w' d,r= .val d→γ.le γ'→Frame γ H w γ' H' w'→bD W G γ' H' w'→aL γ' v d→K (a.put o.dst v) w')
    (hQ:∀v γ' w' d,r= .bR d→γ.le γ'→Frame γ H w γ' H' w'→bD W G γ' H' w'→aL γ' v d→Q (.panic [{v,recovered:=false}]) a w'):o.wp P a w K Q:=by
 have iy:=bT E hf;have uK:=GB E ha;unfold p9 at he;split at he
 ·rename_i g first cap hg
  rw[hg] at iy;obtain⟨as,cs,hv,r1,r2⟩:=iy.GC;obtain⟨rW,hm⟩:=abc S he;have lK:cy γ (as++args.map a.eval++cs) (first++LD.map (·.ev env)++cap):=(r1.append uK).append r2;have cM:(execOp a.eval o).run P w= .ok (.enter g (as++args.map a.eval++cs)) w:=by
   simp[execOp,ho,resolve,hv,Deferred.ofValue,invoke,LC rW]
  unfold Oper.wp;rw[cM,Oper.upon_enter];refine(hm γ w _ I lK).mono ?_;rintro e w' ⟨γ',L,F,J,En⟩;cases r with
  |val d=>
   obtain⟨v,rfl,LF⟩:=En;exact hK v γ' w' d rfl L F J LF
  |bR d=>
   obtain⟨v,rfl,LF⟩:=En;exact hQ v γ' w' d rfl L F J LF
 ·cases he
structure qm (P:Program) (ops:Array Oper) (nt:Nat) (o:Oper) (so:SO):Prop where
 k:∃hint,qf P o hint=so.k
 dst:so.dst=o.dst
 lt:∀t,o.dst=some t→t<nt
 g:so.g=match o.guard with
  |none=>none
  |some (j,want)=>match(ops[j]?).bind (·.dst) with
   |some t=>some (t,want)
   |none=>none
 gd:∀j want,o.guard=some (j,want)→((ops[j]?).bind (·.dst)).isSome=true
theorem abe{op:Op}{r:Option SK}(h:Az op=some r):(∃f0 rX ts,op= .call {callee:=.value f0,args:=rX,argTypes:=ts}∧
    r=(match aQ f0,aP aQ rX.toList with |some g,some xs=>some (.call g xs) |_,_=>none))∨∃x,op= .panic x∧r=(aQ x).map .panic:=by
 cases op with
 |call c=>
  obtain⟨callee,as,ts⟩:=c;cases callee with
  |value g=>
   refine .inl ⟨g,as,ts,rfl,?_⟩;simp only[Az] at h;split at h<;>cases h<;>simp_all
  |_=>cases h
 |panic x=>
  simp only[Az,bI] at h;exact .inr ⟨x,rfl,h.symm⟩
 |_=>cases h
theorem kK{c:bC}{k:SK}(hk:k.lI=false):cF c G env H k=match aN G env H k with |some (d,H')=>some (.val d,H') |none=>none:=by
 cases k<;>first |rfl |cases hk
theorem abf{h:Option SK}{k:SK}(hc:k.lI=true)(hk:qf P o h=k):oB P o.op=k:=by
 unfold qf at hk;split at hk
 ·unfold C8 at hk;split at hk
  ·split at hk
   ·subst hk;cases hc
   ·exact hk
  ·split at hk
   ·subst hk;cases hc
   ·exact hk
  ·split at hk
   ·split at hk
    ·split at hk
     ·split at hk
      ·subst hk;cases hc
      ·exact hk
     ·exact hk
    ·exact hk
   ·exact hk
  ·split at hk
   ·subst hk;cases hc
   ·exact hk
  ·split at hk
   ·subst hk;cases hc
   ·exact hk
  ·exact hk
 ·subst hk;cases hc
theorem abg(I:bD W G γ H w)(E:bh γ env a.tmps){x:Operand}(ho:o.op= .panic x){y:aw}(hy:aQ x=some y){r:bt}{H':Hp}(he:Ga (y.ev env) H=some (r,H')){K:Act→World→Prop}{Q:Exit→Act→World→Prop}
    (hQ:∀v γ' w' d,r= .bR d→γ.le γ'→Frame γ H w γ' H' w'→bD W G γ' H' w'→aL γ' v d→Q (.panic [{v,recovered:=false}]) a w'):o.wp P a w K Q:=by
 have hr:=bT E hy;have key:∃t v,a.eval x= .iface t v∧r= .bR (y.ev env)∧H'=H:=by
  unfold Ga at he;split at he
  ·rename_i t y' hd;rw[hd] at hr;have:=hr.bY;generalize a.eval x=v at this;cases this with
   |iface t v z hz=>cases he;exact⟨t,v,rfl,by rw[hd],rfl⟩
  ·rename_i t y' hd;rw[hd] at hr;generalize a.eval x=v at hr;cases hr with
   |eE t v d bH=>cases he;exact⟨t,v,rfl,by rw[hd],rfl⟩
  ·cases he
 obtain⟨t,v,hv,rfl,rfl⟩:=key;have hx:(execOp a.eval o).run P w= .halt (.panic (.iface t v)) w:=by
  unfold execOp;rw[ho];dsimp only;rw[hv];rfl
 unfold Oper.wp;rw[hx];exact hQ _ γ w _ rfl (.refl γ) (.refl γ H' w) I (by rw[←hv];exact hr)
theorem yw{c:bC}(S:Sound P W G c)(I:bD W G γ H w)(E:bh γ env a.tmps){k:SK}(hk:∃hint,qf P o hint=k){r:bt}{H':Hp}(he:cF c G env H k=some (r,H')){K:Act→World→Prop}{Q:Exit→Act→World→Prop}
    (hK:∀v γ' w' d,r= .val d→γ.le γ'→Frame γ H w γ' H' w'→bD W G γ' H' w'→aL γ' v d→K (a.put o.dst v) w')
    (hQ:∀v γ' w' d,r= .bR d→γ.le γ'→Frame γ H w γ' H' w'→bD W G γ' H' w'→aL γ' v d→Q (.panic [{v,recovered:=false}]) a w'):o.wp P a w K Q:=by
 obtain⟨hint,hk⟩:=hk;by_cases hc:k.lI=true
 ·have iY:=abf hc hk;unfold oB at iY;split at iY
  ·rename_i r0 oH;rcases abe oH with⟨f0,rX,ts,ho,hr⟩ |⟨x,ho,hr⟩
   ·subst hr;split at iY
    ·rename_i g' xs' h1 h2;simp only[kU] at iY;subst iY;exact abd S I E ho h1 h2 he hK hQ
    ·simp only[amB] at iY;subst iY;cases hc
   ·subst hr;cases hx:aQ x with
    |none=>
     rw[hx] at iY;simp only[Option.map_none,amB] at iY;subst iY;cases hc
    |some y=>
     rw[hx] at iY;simp only[eA,kU] at iY;subst iY;exact abg I E ho hx he hQ
  ·split at iY
   ·rename_i k' mR;split at iY
    ·subst iY;cases hc
    ·rename_i eh;subst iY;exact absurd hc eh
   ·subst iY;cases hc
 ·have hc:k.lI=false:=by simpa using hc
  rw[kK hc] at he;split at he
  ·rename_i d H1 hd;cases he;obtain⟨v,w',γ',cM,L,F,J0,V⟩:=aa3 I.toInv E hk hc hd;have J:=I.up L F J0;have bW:=hK v γ' w' d rfl L F J V;unfold Oper.wp;rcases cM with h |⟨h,rfl⟩
   ·rw[h];exact bW
   ·rw[h];exact bW
  ·cases he
theorem bh.Rr{γ:Gh}{env:Env}{nt:Nat}(E:bh γ env a.tmps)(hn:a.tmps.size=nt){dst:Option Nat}(hd:∀t,dst=some t→t<nt){v:Value}{d:D}(h:aL γ v d):
    bh γ (Go.Vs.put dst d env) (a.put dst v).tmps∧(a.put dst v).tmps.size=nt∧(a.put dst v).defers=a.defers:=by
 cases dst with
 |none=>exact⟨E,hn,rfl⟩
 |some t=>exact⟨E.put (by rw[hn];exact hd t rfl) h,by simp[Act.put,hn],rfl⟩
theorem AL{ops:Array Oper}{nt:Nat}{so:SO}(h:qm P ops nt o so)(E:bh γ env a.tmps)(hn:a.tmps.size=nt)(ah:∀(j:Nat) o' t,ops[j]? =some o'→o'.dst=some t→t<nt){b:Bool}(hg:fF env so.g=some b):
    Region.wanted o (yielded ops a.tmps)=b:=by
 have h1:=h.g;have h2:=h.gd;cases oI:o.guard with
 |none=>
  rw[oI] at h1;rw[h1] at hg;simp only[fF] at hg;cases hg;simp[Region.wanted,oI]
 |some jw=>
  obtain⟨j,want⟩:=jw;rw[oI] at h1;obtain⟨t,ht⟩:=Yy.1 (h2 j want oI);simp only[ht] at h1;rw[h1] at hg;simp only[fF] at hg;have hr:=E t;have kG:t<a.tmps.size:=by
   rw[hn];obtain⟨o',LG,hd⟩:=Option.bind_eq_some_iff.1 ht;exact ah j o' t LG hd
  have hval:a.tmps[t]? =some (a.tmps.getD t undef):=by simp[bN,kG]
  simp only[Region.wanted,oI,yielded,ht,PB,hval];split at hg
  ·rename_i bb hb;rw[hb] at hr;rw[hr.bY.s8];cases hg;cases bb<;>cases want<;>rfl
  ·rename_i hb;rw[hb] at hr;generalize a.tmps.getD t undef=v at hr;cases hr;cases hg;rfl
  ·cases hg
theorem Dr{c:bC}(S:Sound P W G c){ops:Array Oper}{nt:Nat}(ah:∀(j:Nat) o' t,ops[j]? =some o'→o'.dst=some t→t<nt){Q:Exit→Act→World→Prop}(l2:List Oper):
    ∀(l:List Oper) (sl:List SO) (γ:Gh) (env:Env) (H:Hp) (a:Act) (w:World),l.length=sl.length→(∀(i:Nat) o so,l[i]? =some o→sl[i]? =some so→qm P ops nt o so)→
     bD W G γ H w→bh γ env a.tmps→a.tmps.size=nt→∀r,kc c G sl env H=some r→
     (∀γ' gi H' a' w',r= .ok gi H'→γ.le γ'→Frame γ H w γ' H' w'→bD W G γ' H' w'→bh γ' gi a'.tmps→a'.tmps.size=nt→a'.defers=a.defers→wpList P ops Q l2 a' w')→
     (∀γ' d gi H' v a' w',r= .bR d gi H'→γ.le γ'→Frame γ H w γ' H' w'→bD W G γ' H' w'→aL γ' v d→bh γ' gi a'.tmps→a'.tmps.size=nt→a'.defers=a.defers→Q (.panic [{v,recovered:=false}]) a' w')→
     wpList P ops Q (l++l2) a w
 |[],sl,γ,env,H,a,w,hl,_,I,E,hn,r,he,bV,_=>by
  cases sl with
  |cons=>simp at hl
  |nil=>
   simp only[kc] at he;cases he;exact bV γ env H a w rfl (.refl γ) (.refl γ H w) I E hn rfl
 |o::l,sl,γ,env,H,a,w,hl,ld,I,E,hn,r,he,bV,uL=>by
  cases sl with
  |nil=>simp at hl
  |cons so sl=>
   have ho:=ld 0 o so rfl rfl;have oJ:∀(i:Nat) o fB,l[i]? =some o→sl[i]? =some fB→qm P ops nt o fB:=fun i o fB h1 h2=>ld (i+1) o fB (by simpa using h1) (by simpa using h2);have ie:l.length=sl.length:=by simpa using hl
   simp only[kc] at he;split at he
   ·rename_i hg;have hw:=AL ho E hn ah hg;refine wpList_step fun K hK=>?_;rw[if_pos hw];split at he
    ·rename_i d H1 hd;refine yw S I E ho.k hd (fun v γ' w' d' hr L F J V=>?_) (fun v γ' w' d' hr _ _ _ _=>by cases hr);cases hr;obtain⟨p1,p2,p3⟩:=(E.mono L).Rr hn (dst:=o.dst) ho.lt V;rw[ho.dst] at he;refine hK _ _ (Dr S ah l2 l sl γ' _ _ _ w' ie oJ J p1 p2 r he (fun γ2 gi H' a' w2 h1 h2 h3 h4 h5 h6 h7=>bV γ2 gi H' a' w2 h1 (L.trans h2) (F.trans L.base h3) h4 h5 h6 (h7.trans p3)) (fun γ2 d2 e2 H' v2 a' w2 h1 h2 h3 h4 h5 h6 h7 h8=>uL γ2 d2 e2 H' v2 a' w2 h1 (L.trans h2) (F.trans L.base h3) h4 h5 h6 h7 (h8.trans p3)))
    ·rename_i d H1 hd;cases he;exact yw S I E ho.k hd (fun v γ' w' d' hr _ _ _ _=>by cases hr) (fun v γ' w' d' hr L F J V=>by cases hr;exact uL γ' d env H1 v a w' rfl L F J V (E.mono L) hn rfl)
    ·cases he
   ·rename_i hg;have hw:=AL ho E hn ah hg;refine wpList_step fun K hK=>?_;rw[if_neg (by simp[hw])];obtain⟨p1,p2,p3⟩:=E.Rr hn (dst:=o.dst) ho.lt (v:=undef) aL.undef;rw[ho.dst] at he;exact hK _ _ (Dr S ah l2 l sl γ _ _ _ w ie oJ I p1 p2 r he (fun γ2 gi H' a' w2 h1 h2 h3 h4 h5 h6 h7=>bV γ2 gi H' a' w2 h1 h2 h3 h4 h5 h6 (h7.trans p3)) (fun γ2 d2 e2 H' v2 a' w2 h1 h2 h3 h4 h5 h6 h7 h8=>uL γ2 d2 e2 H' v2 a' w2 h1 h2 h3 h4 h5 h6 h7 (h8.trans p3)))
   ·cases he
theorem LH{c:bC}(S:Sound P W G c){ops:Array Oper}{nt:Nat}(ah:∀(j:Nat) o' t,ops[j]? =some o'→o'.dst=some t→t<nt){Q:Exit→Act→World→Prop}(l:List Oper)(sl:List SO)(γ:Gh)(env:Env)(H:Hp)(a:Act)(w:World)(hl:l.length=sl.length)
    (ld:∀(i:Nat) o so,l[i]? =some o→sl[i]? =some so→qm P ops nt o so) (I:bD W G γ H w) (E:bh γ env a.tmps) (hn:a.tmps.size=nt) (r:RO) (he:kc c G sl env H=some r)
    (bV:∀γ' gi H' a' w',r= .ok gi H'→γ.le γ'→Frame γ H w γ' H' w'→bD W G γ' H' w'→bh γ' gi a'.tmps→a'.tmps.size=nt→a'.defers=a.defers→Q .normal a' w')
    (uL:∀γ' d gi H' v a' w',r= .bR d gi H'→γ.le γ'→Frame γ H w γ' H' w'→bD W G γ' H' w'→aL γ' v d→bh γ' gi a'.tmps→a'.tmps.size=nt→a'.defers=a.defers→Q (.panic [{v,recovered:=false}]) a' w'):
    wpList P ops Q l a w:=by
 have:=Dr S ah (Q:=Q) [] l sl γ env H a w hl ld I E hn r he (fun γ' gi H' a' w' h1 h2 h3 h4 h5 h6 h7=>wpList_nil (bV γ' gi H' a' w' h1 h2 h3 h4 h5 h6 h7)) uL
 rwa [lA] at this
variable {P : Program} {W : World} {G : Nat → Option (List PD)}
theorem aw.dQ{e e':Env}{x:aw}(h:∀t∈x.slots,e.get t=e'.get t):x.ev e=x.ev e':=by
 cases x with
 |t i=>exact h i (by simp[aw.slots])
 |c d=>rfl
theorem LI{e e':Env}{xs:List aw}(h:∀t∈xs.flatMap aw.slots,e.get t=e'.get t):xs.map (·.ev e)=xs.map (·.ev e'):=
 sV fun x hx=>aw.dQ fun t ht=>h t (FU.2 ⟨x,hx,ht⟩)
theorem abh{e e':Env}{H:Hp}{k:SK}(h:∀t∈k.slots,e.get t=e'.get t):aN G e H k=aN G e' H k:=by
 have two:∀x y:aw,(∀t∈x.slots++y.slots,e.get t=e'.get t)→x.ev e=x.ev e'∧y.ev e=y.ev e':=fun x y h=>
  ⟨aw.dQ fun t ht=>h t (by simp[ht]),aw.dQ fun t ht=>h t (by simp[ht])⟩
 cases k<;>simp only[SK.slots] at h<;>simp only[aN]
 case move=>rw[aw.dQ h]
 case box=>rw[aw.dQ h]
 case load=>rw[aw.dQ h]
 case nilCheck=>rw[aw.dQ h]
 case un=>rw[aw.dQ h]
 case faddr=>rw[aw.dQ h]
 case field=>rw[aw.dQ h]
 case extract=>rw[aw.dQ h]
 case len=>rw[aw.dQ h]
 case conv=>rw[aw.dQ h]
 case strid=>rw[aw.dQ h]
 case toBytes=>rw[aw.dQ h]
 case toStr=>rw[aw.dQ h]
 case iface=>rw[aw.dQ h]
 case sdata=>rw[aw.dQ h]
 case boxB=>rw[aw.dQ h]
 case cap=>rw[aw.dQ h]
 case tassert=>rw[aw.dQ h]
 case makesl=>obtain⟨h1,h2⟩:=two _ _ h;rw[h1,h2]
 case appendm=>obtain⟨h1,h2⟩:=two _ _ h;rw[h1,h2]
 case appendg=>obtain⟨h1,h2⟩:=two _ _ h;rw[h1,h2]
 case ustr=>obtain⟨h1,h2⟩:=two _ _ h;rw[h1,h2]
 case copy=>obtain⟨h1,h2⟩:=two _ _ h;rw[h1,h2]
 case store=>obtain⟨h1,h2⟩:=two _ _ h;rw[h1,h2]
 case bin=>obtain⟨h1,h2⟩:=two _ _ h;rw[h1,h2]
 case eqk=>obtain⟨h1,h2⟩:=two _ _ h;rw[h1,h2]
 case eqs=>obtain⟨h1,h2⟩:=two _ _ h;rw[h1,h2]
 case iaddr=>obtain⟨h1,h2⟩:=two _ _ h;rw[h1,h2]
 case index=>obtain⟨h1,h2⟩:=two _ _ h;rw[h1,h2]
 case append=>obtain⟨h1,h2⟩:=two _ _ h;rw[h1,h2]
 case minmax=>obtain⟨h1,h2⟩:=two _ _ h;rw[h1,h2]
 case mapget=>obtain⟨h1,h2⟩:=two _ _ h;rw[h1,h2]
 case mapins kd c a b=>
  have h1:=aw.dQ (x:=c) fun t ht=>h t (by simp[ht]);have h2:=aw.dQ (x:=a) fun t ht=>h t (by simp[ht]);have h3:=aw.dQ (x:=b) fun t ht=>h t (by simp[ht]);rw[h1,h2,h3]
 case mapset kd c a b=>
  have h1:=aw.dQ (x:=c) fun t ht=>h t (by simp[ht]);have h2:=aw.dQ (x:=a) fun t ht=>h t (by simp[ht]);have h3:=aw.dQ (x:=b) fun t ht=>h t (by simp[ht]);rw[h1,h2,h3]
 case pick c a b=>
  have h1:=aw.dQ (x:=c) fun t ht=>h t (by simp[ht]);have h2:=aw.dQ (x:=a) fun t ht=>h t (by simp[ht]);have h3:=aw.dQ (x:=b) fun t ht=>h t (by simp[ht]);rw[h1,h2,h3]
 case build zs ps=>
  have :(ps.map fun(x:Nat×Nat×aw)=>(x.1,x.2.1,x.2.2.ev e))=ps.map fun x=>(x.1,x.2.1,x.2.2.ev e'):=
   sV fun x hx=>by rw[aw.dQ fun t ht=>h t (FU.2 ⟨x,hx,ht⟩)]
  rw[this]
 case bsliceG e0 sz len z ps=>
  have :(ps.map fun(x:Nat×Nat×aw)=>(x.1,x.2.1,x.2.2.ev e))=ps.map fun x=>(x.1,x.2.1,x.2.2.ev e'):=
   sV fun x hx=>by rw[aw.dQ fun t ht=>h t (FU.2 ⟨x,hx,ht⟩)]
  rw[this]
 case slice3 sz x lo hi mx=>
  have h1:=aw.dQ (x:=x) fun t ht=>h t (by simp[ht]);have h2:lo.map (·.ev e)=lo.map (·.ev e'):=by
   cases lo with
   |none=>rfl
   |some y=>simp only[eA];rw[aw.dQ (x:=y) fun t ht=>h t (by simp[wg,ht])]
  have h3:=aw.dQ (x:=hi) fun t ht=>h t (by simp[ht]);have h4:=aw.dQ (x:=mx) fun t ht=>h t (by simp[ht]);rw[h1,h2,h3,h4]
 case bslice e0 sz len z ps=>
  have :(ps.map fun(x:Nat×aw)=>(x.1,x.2.ev e))=ps.map fun x=>(x.1,x.2.ev e'):=
   sV fun x hx=>by rw[aw.dQ fun t ht=>h t (FU.2 ⟨x,hx,ht⟩)]
  rw[this]
 case mkfn f first cap=>
  rw[LI (xs:=first) fun t ht=>h t (amC _ ht),LI (xs:=cap) fun t ht=>h t (amD _ ht)]
 case slice sz x lo hi=>
  have h1:=aw.dQ (x:=x) fun t ht=>h t (by simp[ht]);have h2:lo.map (·.ev e)=lo.map (·.ev e'):=by
   cases lo with
   |none=>rfl
   |some y=>simp only[eA];rw[aw.dQ (x:=y) fun t ht=>h t (by simp[wg,ht])]
  have h3:hi.map (·.ev e)=hi.map (·.ev e'):=by
   cases hi with
   |none=>rfl
   |some y=>simp only[eA];rw[aw.dQ (x:=y) fun t ht=>h t (by simp[wg,ht])]
  rw[h1,h2,h3]
 case slarr n sz x lo hi=>
  have h1:=aw.dQ (x:=x) fun t ht=>h t (by simp[ht]);have h2:lo.map (·.ev e)=lo.map (·.ev e'):=by
   cases lo with
   |none=>rfl
   |some y=>simp only[eA];rw[aw.dQ (x:=y) fun t ht=>h t (by simp[wg,ht])]
  have h3:hi.map (·.ev e)=hi.map (·.ev e'):=by
   cases hi with
   |none=>rfl
   |some y=>simp only[eA];rw[aw.dQ (x:=y) fun t ht=>h t (by simp[wg,ht])]
  rw[h1,h2,h3]
theorem abi{c:bC}{e e':Env}{H:Hp}{k:SK}(h:∀t∈k.slots,e.get t=e'.get t):cF c G e H k=cF c G e' H k:=by
 by_cases hp:∃x,k= .panic x
 ·obtain⟨x,rfl⟩:=hp;simp only[cF];rw[aw.dQ (x:=x) fun t ht=>h t ht]
 by_cases hk:k.lI=true
 ·cases k<;>first |(cases hk;done) |(exact absurd ⟨_,rfl⟩ hp) |skip
  rename_i f as;simp only[SK.slots] at h;simp only[cF];rw[aw.dQ (x:=f) fun t ht=>h t (amC _ ht),LI (xs:=as) fun t ht=>h t (amD _ ht)]
 ·rw[kK (by simpa using hk),kK (by simpa using hk),abh h]
theorem G7{e:Env}{k:SK}(h:k.fw=true)(H:Hp):aN G e H k=(aN G e ⟨[],[]⟩ k).map fun x=>(x.1,H):=by
 cases k<;>first |(cases h;done) |skip
 all_goals
  simp only[aN]
  first
   |rfl
   |(simp only[PC];rfl)
   |(split<;>first |rfl |(simp only[PC];rfl) |(split<;>first |rfl |(simp only[PC];rfl)))
theorem G8{c:bC}{e:Env}{H H':Hp}{k:SK}{d:D}(he:cF c G e H k=some (.val d,H'))(hc:cls e k≤1)(hl:H'.bx.length=H.bx.length):
    H'=H∧(cls e k=0→∀H2,cF c G e H2 k=some (.val d,H2)):=by
 by_cases hp:∃x,k= .panic x
 ·obtain⟨x,rfl⟩:=hp;simp only[cls] at hc;omega
 by_cases hk:k.lI=true
 ·cases k<;>first |(cases hk;done) |(exact absurd ⟨_,rfl⟩ hp) |skip
  rename_i f as;simp only[cls] at hc⊢;split at hc
  ·rename_i AM;rw[if_pos AM];simp only[bQ,List.isEmpty_iff] at AM;simp only[cF] at he⊢;unfold p9 at he⊢;split at he
   ·rename_i g first cap hg
    have hr:D.aD (first++vO (fun x=>aw.ev e x) as++cap)=[]:=by
     have:=AM.1;have app:∀x y:List D,D.aD (x++y)=D.aD x++D.aD y:=by
      intro x y
      induction x with
      |nil=>simp[D.aD]
      |cons d x ih=>simp[D.aD,ih]
     rw[hg] at this;simp only[D.aD,D.refs,xJ] at this;rw[app,app,this.1.1,this.1.2,this.2];rfl
    have ht:D.bz (first++vO (fun x=>aw.ev e x) as++cap)=[]:=by
     have:=AM.2;have app:∀x y:List D,D.bz (x++y)=D.bz x++D.bz y:=by
      intro x y
      induction x with
      |nil=>simp[D.bz]
      |cons d x ih=>simp[D.bz,ih]
     rw[hg] at this;simp only[D.bz,D.cJ,xJ] at this;rw[app,app,this.1.1,this.1.2,this.2];rfl
    have yx:∀H0:Hp,∀n,reach H0 n []=[]:=by
     intro H0 n;cases n<;>simp[reach,ef]
    unfold av at he⊢;simp only[hr,ht,ins,yx,fX,lA,nodupB,Kh,if_true,aP] at he⊢;split at he
    ·rename_i x6 bx tk h1 h2 h3;cases h2;cases h3;split at he
     ·rename_i rl Hl mg;have key:∀H0:Hp,(Hl.bx.length=0∨True)→back [] [] H0 rl Hl=(match rl.ren (fun _=>none) (fun _=>none) with
          |some r'=>some (r',H0)
          |none=>match rl.ren (fun i=>some (H0.bx.length+i)) (fun _=>none),aP (D.ba (fun i=>some (H0.bx.length+i)) fun _=>none) Hl.bx with
           |some r',some (n0::nw)=>some (r',⟨H0.bx++(n0::nw),H0.tk⟩)
           |_,_=>none):=by
       intro H0 _;unfold back;simp only[gM,fW,b9,if_true,vT,List.getElem?_nil,aP,cq,Ai,if_false,Nat.sub_zero,tZ];cases rl.ren (fun _=>none) (fun _=>none) with
       |some r'=>rfl
       |none=>
        cases rl.ren (fun i=>some (H0.bx.length+i)) (fun _=>none)<;>cases aP (D.ba (fun i=>some (H0.bx.length+i)) fun _=>none) Hl.bx<;>first |rfl |(rename_i l;cases l<;>rfl)
      rw[key H (.inr trivial)] at he;cases mh:rl.ren (fun _=>none) (fun _=>none) with
      |some r'=>
       rw[mh] at he;cases he;refine⟨rfl,fun _ H2=>?_⟩;rw[key H2 (.inr trivial),mh]
      |none=>
       rw[mh] at he;dsimp only at he;split at he
       ·cases he;simp at hl
       ·cases he
     ·cases he
    ·cases he
   ·cases he
  ·omega
 ·have hk:k.lI=false:=by simpa using hk
  rw[kK hk] at he;have pl:∀H2,cF c G e H2 k=match aN G e H2 k with |some (d,H')=>some (.val d,H') |none=>none:=fun H2=>kK hk
  split at he
  ·rename_i d0 H0 hd;cases he;by_cases nG:k.fw=true
   ·have q:=G7 (G:=G) (e:=e) nG H;rw[q] at hd;obtain⟨x,hx,hh⟩:=au.1 hd;cases hh;refine⟨rfl,fun _ H2=>?_⟩;rw[pl,G7 nG H2,hx];rfl
   ·cases k<;>first |(exact absurd rfl nG) |(exfalso;simp only[cls] at hc;omega) |(exfalso;cases hk;done) |skip
    rotate_left
    ·rename_i x;simp only[aN] at hd;obtain⟨d',bH,hh⟩:=au.1 hd;cases hh;exact⟨rfl,fun h0=>by simp[cls] at h0⟩
    ·rename_i e0 x n;simp only[aN] at hd;refine⟨?_,fun h0=>by simp[cls] at h0⟩;unfold F9 at hd;split at hd
     ·split at hd
      ·split at hd<;>cases hd;rfl
      ·split at hd<;>cases hd;rfl
      ·split at hd
       ·obtain⟨d',bH,hh⟩:=au.1 hd;cases hh;rfl
       ·cases hd
      ·cases hd
     ·cases hd
    ·simp only[aN] at hd;obtain⟨d',bH,hh⟩:=au.1 hd;cases hh;exact⟨rfl,fun h0=>by simp[cls] at h0⟩
    ·rename_i x _;simp only[aN] at hd;split at hd
     ·rename_i xs gh;obtain⟨s,hs,hh⟩:=au.1 hd;cases hh;refine⟨rfl,fun h0 H2=>?_⟩;rw[pl];simp only[aN];simp only[cls] at h0;have hq:∀Hq:Hp,sX Hq (x.ev e)=Kr (x.ev e):=by
       intro Hq;unfold sX;split
       ·rename_i hx;rw[hx] at h0;cases h0
       ·rename_i hx;rw[hx] at h0;cases h0
       ·rfl
      rw[hq] at gh⊢;simp only[gh,hs,eA]
     ·cases hd
    ·rename_i n x;simp only[cls] at hc⊢;simp only[aN] at hd;obtain⟨d',bH,hh⟩:=au.1 hd;cases hh;refine⟨rfl,fun h0 H2=>?_⟩;rw[pl];simp only[aN];unfold ph at bH⊢;split at h0
     ·rename_i cs off hx;rw[hx] at bH⊢;dsimp only at bH⊢;rw[bH];rfl
     ·rename_i g off hx;rw[hx] at bH⊢;dsimp only at bH⊢;rw[bH];rfl
     ·omega
  ·cases he
end Go.Vs
namespace Go.Vs
variable {P : Program} {W : World} {G : Nat → Option (List PD)}
variable {γ γ' : Gh} {H H' : Hp} {w w' : World} {s0 bP : Nat} {zs : List PD}
def pA(γ:Gh)(H:Hp)(s0:Nat)(zs:List PD)(bP:Nat)(w:World):Prop:=
 (∃vs T fr,w.heap[bP]? =some (.cells vs T fr)∧eT γ vs (zs.map .p)∧clear fr 0 vs.size)∧(∀o,γ.mem bP o=none)∧¬kE γ H bP∧bP∉γ.boxes∧s0≤bP
theorem pA.keep(p:pA γ H s0 zs bP w)(L:γ.le γ')(F:Frame γ H w γ' H' w'):pA γ' H' s0 zs bP w':=by
 obtain⟨⟨vs,T,fr,h1,h2,h3⟩,h4,h5,h6,h7⟩:=p;have ah:bP<w.heap.size:=(gz.1 h1).1;have hm:∀o,γ'.mem bP o=none:=fun o=>(F.mem bP o ah h5).trans (h4 o);refine⟨?_,hm,fun h=>?_,fun h=>?_,h7⟩
 ·rcases(F.bP bP ah h5).2 with q |⟨cs,T',f1,f2,q1,q2,q3⟩
  ·exact⟨vs,T,fr,q.trans h1,h2.mono L,h3⟩
  ·rw[h1] at q1;cases q1;refine⟨vs,T,f2,q2,h2.mono L,fun k _ hk hc=>?_⟩;rcases q3 k hk hc with q |q
   ·exact h3 k (b9 _) hk q
   ·exact q (hm k)
 ·rcases F.own bP h with q |q
  ·exact h5 q
  ·omega
 ·rcases F.uw bP h with q |q
  ·exact h6 q
  ·omega
theorem abj{o:Oper}{e:TypeId}(ho:o.op= .alloc e)(hk:∃hint,qf P o hint= .alloc zs):∃z,zeroOf P e=some z∧zs=z.cells:=by
 obtain⟨hint,hk⟩:=hk;have hp:oB P o.op= .alloc zs:=by
  unfold qf at hk;split at hk
  ·unfold C8 at hk;split at hk<;>(try exact hk)<;>(rw[ho] at hk⊢)<;>(try (simp only at hk;exact hk))
   ·split at hk<;>first |exact hk |cases hk |contradiction
  ·cases hk
 rw[ho] at hp;simp only[oB,Az,gO] at hp;cases hz:zeroOf P e with
 |none=>rw[hz] at hp;simp at hp
 |some z=>
  rw[hz] at hp;simp only[eA] at hp;split at hp
  ·cases hp
  ·exact⟨z,rfl,by cases hp;rfl⟩
theorem abk(I:bD W G γ H w){a:Act}{o:Oper}{e:TypeId}(ho:o.op= .alloc e)(hk:∃hint,qf P o hint= .alloc zs)(hs:s0≤w.heap.size):
    ∃w',(execOp a.eval o).run P w= .ok (.value (.pointer (some ⟨w.heap.size,0,none⟩))) w'∧Frame γ H w γ H w'∧bD W G γ H w'∧pA γ H s0 zs w.heap.size w':=by
 obtain⟨z,hz,rfl⟩:=abj ho hk;obtain⟨v,q1,q2⟩:=wm hz w;obtain⟨r1,r2⟩:=(s7 γ.mem q2).cells;obtain⟨F,J⟩:=I.Qk (.cells v.cells e);refine⟨w.alloc (.cells v.cells e),by simp[execOp,ho,Instr.alloc,q1,newVar,newRow],F,I.up (.refl γ) F J,⟨v.cells,e,(0,0),by rw[heap_alloc,if_pos rfl],(Dd r1 fun i d hd=>(r2 i d hd).1).C2,fun k _ _ h=>by omega⟩,fun o=>?_,fun h=>?_,fun h=>?_,hs⟩
 ·cases hm:γ.mem w.heap.size o with
  |none=>rfl
  |some v=>have:=I.qP hm;omega
 ·rcases h with h |⟨t,row,f,cap,h⟩
  ·exact I.KB h
  ·have:=I.nE (t:=t) ⟨row,f,cap,h⟩;omega
 ·have:=I.mP h;omega
theorem Inv.abl(I:Inv G γ H w){cs:List D}{vs:Array Value}{T:Nat}{fr:Nat×Nat}(hb:w.heap[bP]? =some (.cells vs T fr))(hr:eT γ vs cs)(dr:clear fr 0 vs.size)(h1:∀c∈cs,c.one=true)(aq:cs≠[])
    (hm:∀o,γ.mem bP o=none) (eU:¬kE γ H bP) (fZ:bP∉γ.boxes):
    γ.le {γ with boxes:=γ.boxes++[bP]}∧Inv G {γ with boxes:=γ.boxes++[bP]} {H with bx:=H.bx++[cs]} w:=by
 have hle:γ.le {γ with boxes:=γ.boxes++[bP]}:=⟨rfl,fun c x h=>h,fun _ _ _ h=>h,fun i b h=>by
  have hi:i<γ.boxes.length:=(az.1 h).1;show(γ.boxes++[bP])[i]? =some b;rw[cH hi];exact h,fun t r h=>⟨r,h,rfl,rfl,fun _ _ h=>h⟩⟩
 have dK:∀t b,cY {γ with boxes:=γ.boxes++[bP]} {H with bx:=H.bx++[cs]} t b→cY γ H t b:=fun t b h=>cY.congr (fun _ _ h=>h) (fun _ _ h=>h) h;have oK:¬Lv γ H bP:=fun h=>eU (.inl h);refine⟨hle,?_⟩;constructor
 ·exact I.size
 ·exact I.br
 ·exact I.iV
 ·exact I.mem
 ·exact I.jQ
 ·show(γ.boxes++[bP]).length=(H.bx++[cs]).length;simp[I.cT]
 ·exact I.Gq oK rfl rfl
 ·intro i b bL cb hc;have cb:(γ.boxes++[bP])[i]? =some b:=cb;have hc:(H.bx++[cs])[i]? =some bL:=hc;rcases sZ I.cT cb hc with⟨a1,a2⟩ |⟨_,rfl,rfl⟩
  ·obtain⟨cv,T',ct,b1,b2,b3⟩:=I.box i b bL a1 a2;exact⟨cv,T',ct,b1,b2.mono hle,b3⟩
  ·exact⟨vs,T,fr,by rw[iU (C0 h1)];exact hb,hr.mono hle,fun _=>h1,fun _=>dr⟩
 ·intro b o cb;rcases Lv.push (γ':={γ with boxes:=γ.boxes++[bP]}) (H':={H with bx:=H.bx++[cs]}) I.cT rfl rfl cb with h |⟨h,_⟩
  ·exact I.iw b o h
  ·subst h;exact hm o
 ·intro i b h1 h2;have h2:(H.bx++[cs])[i]? =some []:=h2;have h1:(γ.boxes++[bP])[i]? =some b:=h1;rcases sZ I.cT h1 h2 with⟨a1,a2⟩ |⟨_,_,h⟩
  ·exact I.jE i b a1 a2
  ·exact absurd h.symm aq
 ·exact I.fY
 ·intro t row f h1 h2;obtain⟨r,a1,a2⟩:=I.row t row f h1 h2;refine⟨r,a1,a2.keep (fun _ _ h=>h) (fun b cap hr ah=>rfl) (fun b cap hr ah o=>rfl) (fun b cap hr ah hb cb=>?_)⟩;have cb:b∈γ.boxes++[bP]:=cb;rcases cW.1 cb with h |h
  ·exact hb h
  ·have :b=bP:=by simpa using h
   subst this;exact eU (.inr ⟨t,row,f,cap,h1,h2,hr▸a1,ah⟩)
 ·exact I.jR
 ·intro t t' b h h';exact I.free t t' b (dK t b h) (dK t' b h')
theorem pA.add{γ0:Gh}{H0:Hp}{w0:World}(p:pA γ H w0.heap.size zs bP w)(I:bD W G γ H w)(F:Frame γ0 H0 w0 γ H w)(hW:W.heap.size≤w0.heap.size)(h1:zs.all PD.one=true)(aq:zs≠[]):
    ∃γ',γ.le γ'∧Frame γ0 H0 w0 γ' {H with bx:=H.bx++[zs.map .p]} w∧bD W G γ' {H with bx:=H.bx++[zs.map .p]} w∧aL γ' (.pointer (some ⟨bP,0,none⟩)) (.box H.bx.length 0)∧
     ∀(s1:Nat) (wD:List PD) (b1:Nat),b1≠bP→pA γ H s1 wD b1 w→pA γ' {H with bx:=H.bx++[zs.map .p]} s1 wD b1 w:=by
 obtain⟨⟨vs,T,fr,a1,a2,a3⟩,a4,a5,a6,a7⟩:=p;obtain⟨hle,J⟩:=I.toInv.abl (cs:=zs.map .p) a1 a2 a3 (fun c hc=>by
  obtain⟨x,hx,rfl⟩:=dz.1 hc;exact gI.1 h1 x hx) (by simpa using aq) a4 a5 a6
 have kF:∀b,Lv {γ with boxes:=γ.boxes++[bP]} {H with bx:=H.bx++[zs.map .p]} b→Lv γ H b∨b=bP:=fun b h=>by
  rcases Lv.push (γ':={γ with boxes:=γ.boxes++[bP]}) (H':={H with bx:=H.bx++[zs.map .p]}) I.cT rfl rfl h with h |⟨h,_⟩
  ·exact .inl h
  ·exact .inr h
 have dK:∀t b,cY {γ with boxes:=γ.boxes++[bP]} {H with bx:=H.bx++[zs.map .p]} t b→cY γ H t b:=fun t b h=>cY.congr (fun _ _ h=>h) (fun _ _ h=>h) h;refine⟨{γ with boxes:=γ.boxes++[bP]},hle,⟨F.os,F.tape,F.output,F.size,F.bP,F.mem,fun b hb=>?_,fun t b hb=>F.uv t b (dK t b hb),fun b hb=>?_⟩,⟨J,I.Dq,I.nM,fun b hb=>?_⟩,.box _ _ _ ?_,fun s1 wD b1 LJ p1=>?_⟩
 ·rcases kF b hb with h |rfl
  ·exact F.box b h
  ·exact .inr a7
 ·rcases cW.1 (show b∈γ.boxes++[bP] from hb) with h |h
  ·exact F.uw b h
  ·have :b=bP:=by simpa using h
   subst this;exact .inr a7
 ·rcases hb with hb |⟨t,hb⟩
  ·rcases kF b hb with h |rfl
   ·exact I.own b (.inl h)
   ·omega
  ·exact I.own b (.inr ⟨t,dK t b hb⟩)
 ·show(γ.boxes++[bP])[H.bx.length]? =_;rw[←I.cT];simp
 ·obtain⟨⟨vs1,T1,Lx,q1,q2,q3⟩,q4,q5,q6,q7⟩:=p1;refine⟨⟨vs1,T1,Lx,q1,q2.mono hle,q3⟩,q4,fun h=>?_,fun h=>?_,q7⟩
  ·rcases h with h |⟨t,h⟩
   ·rcases kF b1 h with h |h
    ·exact q5 (.inl h)
    ·exact LJ h
   ·exact q5 (.inr ⟨t,dK t b1 h⟩)
  ·rcases cW.1 (show b1∈γ.boxes++[bP] from h) with h |h
   ·exact q6 h
   ·exact LJ (by simpa using h)
theorem pA.lt(p:pA γ H s0 zs bP w):bP<w.heap.size:=by
 obtain⟨⟨vs,T,fr,h1,_⟩,_⟩:=p;exact(gz.1 h1).1
end Go.Vs
