/-
  A value-level evaluator for Go functions; the functions of this cut by it; plain laws. Part 2 of 7.
-/
import Derived.Test.YtalgjkpkkdljaaaGreatDoorG1
import Derived.Lib.UnsafeStr
import Derived.MapKept
import Derived.Below
import Derived.Orders
namespace Go.Vs
variable {P : Program} {G : Nat → Option (List PD)} {γ : Gh} {H : Hp} {w : World} {env : Env} {a : Act} {o : Oper}
theorem RepE.append{m:Mem}{sz:Nat}{c1 c2:Array Value}{e1 e2:List PD}(r:RepE m sz c1 e1)(q:RepE m sz c2 e2):RepE m sz (c1++c2) (e1++e2):=by
 obtain⟨r1,r2,r3⟩:=r
 obtain⟨q1,q2,q3⟩:=q
 refine⟨by simp[r1,q1,Nat.add_mul],fun e he=>?_,fun i e j c he hc=>?_⟩
 ·rcases List.mem_append.1 he with h |h
  ·exact r2 e h
  ·exact q2 e h
 ·by_cases hi:i<e1.length
  ·rw[List.getElem?_append_left hi] at he
   have hj:j<sz:=by rw[←(r2 e (List.mem_of_getElem? he)).1];exact(List.getElem?_eq_some_iff.1 hc).1
   have hlt:i*sz+j<c1.size:=by
    rw[r1]
    calc i*sz+j<i*sz+sz:=by omega
     _=(i+1)*sz:=by rw[Nat.add_mul,Nat.one_mul]
     _≤e1.length*sz:=Nat.mul_le_mul_right _ hi
   have:=r3 i e j c he hc
   have ee:(c1++c2).getD (i*sz+j) undef=c1.getD (i*sz+j) undef:=by
    simp[Array.getD_eq_getD_getElem?,Array.getElem?_append,hlt]
   rw[ee];exact this
  ·rw[List.getElem?_append_right (by omega)] at he
   have hge:c1.size≤i*sz+j:=by
    rw[r1]
    calc e1.length*sz≤i*sz:=Nat.mul_le_mul_right _ (by omega)
     _≤i*sz+j:=by omega
   have:=q3 _ e j c he hc
   have e3:i*sz+j-c1.size=(i-e1.length)*sz+j:=by
    rw[r1,Nat.sub_mul]
    have :e1.length*sz≤i*sz:=Nat.mul_le_mul_right _ (by omega)
    omega
   have ee:(c1++c2).getD (i*sz+j) undef=c2.getD ((i-e1.length)*sz+j) undef:=by
    simp only[Array.getD_eq_getD_getElem?]
    rw[Array.getElem?_append_right hge,e3]
   rw[ee];exact this
theorem repE_cells{m:Mem}{b cap sz:Nat}{es:List PD}(h:RepP m (.slice (some ⟨b,0,none⟩) es.length cap) (.slice sz es)){pre:Array Value}(hp:pre.size=es.length*sz)(hm:∀o v,o<es.length*sz→m b o=some v→pre[o]? =some v):RepE m sz pre es:=by
 obtain⟨ad,cap',hv,_,hne⟩:=slice_inv h
 cases hv
 refine⟨hp,fun e he=>?_,fun i e j c he hc=>?_⟩
 ·obtain⟨b',o',vs,hb,h1,h2,_⟩:=hne (fun e0=>by subst e0;simp at he)
  exact⟨h1 e he,h2 e he⟩
 ·obtain⟨b',o',vs,hb,h1,h2,h3,h4⟩:=hne (fun e0=>by subst e0;simp at he)
  cases hb
  have hi:i<es.length:=(List.getElem?_eq_some_iff.1 he).1
  have hj:j<sz:=by rw[←h1 e (List.mem_of_getElem? he)];exact(List.getElem?_eq_some_iff.1 hc).1
  have hlt:i*sz+j<es.length*sz:=by
   calc i*sz+j<i*sz+sz:=by omega
    _=(i+1)*sz:=by rw[Nat.add_mul,Nat.one_mul]
    _≤es.length*sz:=Nat.mul_le_mul_right _ hi
  have hc':=hm _ _ hlt (by have:=h3 i j hi hj;rwa [Nat.zero_add] at this)
  have ee:pre.getD (i*sz+j) undef=vs i j:=by simp[Array.getD_eq_getD_getElem?,hc']
  rw[ee]
  exact h4 i e j c he hc
section
variable {t u ty e : TypeId} {i : TypeInfo} {z : Value} {du : TypeDesc} (ht : P.underlying t = some (.slice e)) (hu : P.underlying u = some du) (hdu : (∃ e', du = .slice e') ∨ du = .string) (hi : P.info? e = some i) (hz : i.zero = some z)
 (hzs:z.cells.size=i.size) (hs:0<i.size) {x:Value} {xs:List PD} {news:Array Value} (S:Src P γ.mem w i.size x xs news)
include ht hu hdu hi hz hzs hs S
theorem append_core(I:Inv G γ H w){tk:Nat}{row:Row}{es:List PD}{r:Option (Nat×Nat)}(h1:γ.rows[tk]? =some row)(h2:H.tk[tk]? =some es.length)(he:row.e=e)(hsz:row.sz=i.size)(hr:row.st es.length=some r)
    (hv:RepP γ.mem (rowVal r es.length) (.slice i.size es)) (hroom:roomy (es.length+xs.length) i.bytes=true):
    ∃v' w' γ',(Builtin.append_ #[t,u] ty #[rowVal r es.length,x]).run P w= .ok v' w'∧γ.le γ'∧Frame γ H w γ' {H with tk:=H.tk.set tk (es.length+xs.length)} w'∧
     Inv G γ' {H with tk:=H.tk.set tk (es.length+xs.length)} w'∧RepD γ' v' (.tsl tk e i.size (es++xs)):=by
 obtain⟨r',hr',hok⟩:=I.row tk row es.length h1 h2
 rw[hr] at hr'
 cases hr'
 have hroom':es.length+xs.length≤140737488355328∧(es.length+xs.length)*i.bytes≤140737488355328:=by simpa[roomy] using hroom
 by_cases h0:xs=[]
 ·
  have hset:H.tk.set tk (es.length+xs.length)=H.tk:=by
   subst h0
   apply List.ext_getElem?
   intro k
   by_cases hk:tk=k
   ·subst hk
    have hlt:=(List.getElem?_eq_some_iff.1 h2).1
    rw[List.getElem?_set_self hlt,h2];rfl
   ·rw[List.getElem?_set_ne hk]
  rw[hset]
  have hrun:(Builtin.append_ #[t,u] ty #[rowVal r es.length,x]).run P w= .ok (rowVal r es.length) w:=by
   cases r with
   |none=>exact run_append_zero ht hu hdu hi S h0 none 0 0 (Nat.le_refl _)
   |some bc=>exact run_append_zero ht hu hdu hi S h0 _ _ _ hok.1.1
  refine⟨_,w,γ,hrun,.refl γ,.refl γ H w,I,?_⟩
  subst h0
  rw[List.append_nil]
  exact .tsl _ tk e i.size es row r h1 he hsz hv hr rfl
 ·have hpos:0<xs.length:=List.length_pos_iff.2 h0
  have hml:es.length+xs.length≤maxLen:=by simp only[maxLen];omega
  have hnews:=S.rep.1
  have hmem_row:∀γ':Gh,∀(b cap:Nat) (cells:Array Value),γ'=γ.grow tk row (es.length+xs.length) b cap cells→γ.le γ'→es.length+xs.length≤cap→RepE γ.mem i.size (cells.extract 0 ((es.length+xs.length)*i.size)) (es++xs)→
      RepD γ' (.slice (some ⟨b,0,none⟩) (es.length+xs.length) cap) (.tsl tk e i.size (es++xs)):=by
   intro γ' b cap cells hγ hle hcap hre
   subst hγ
   have htl:tk<γ.rows.length:=(List.getElem?_eq_some_iff.1 h1).1
   have hre':=(hre.mono hle.mem).slice (b:=b) (cap:=cap) (by simpa using hcap) (fun o ho=>by
    have ho:o<(es.length+xs.length)*i.size:=by simpa using ho
    simp only[Gh.grow,if_true,hsz]
    rw[if_pos ho,Array.getElem?_extract]
    simp
    intro h
    have hsz:=hre.1
    simp at hsz
    omega)
   refine .tsl _ tk e i.size (es++xs) (row.grow (es.length+xs.length) b cap) (some (b,cap)) (by simp[Gh.grow,htl]) he hsz (by simpa using hre') (by simp[Row.grow]) (by simp[rowVal])
  have fresh:∀(base:Option Addr) (n cap:Nat),rowVal r es.length= .slice base n cap→n=es.length→cap<es.length+xs.length→
      ∃v' w' γ',(Builtin.append_ #[t,u] ty #[rowVal r es.length,x]).run P w= .ok v' w'∧γ.le γ'∧Frame γ H w γ' {H with tk:=H.tk.set tk (es.length+xs.length)} w'∧
       Inv G γ' {H with tk:=H.tk.set tk (es.length+xs.length)} w'∧RepD γ' v' (.tsl tk e i.size (es++xs)):=by
   intro base n cap hval hn hcap
   subst hn
   rw[hval] at hv⊢
   obtain⟨olds,So⟩:=elems_src (P:=P) I hs hv
   have hrun:=run_append_new (ty:=ty) ht hu hdu hi hz S base es.length cap olds (fun w' hw'=>So.cells w' hw') hcap (by omega) hroom'.2
   have hge:=grownCap_ge w (es.length+xs.length) cap e
   have hcm:=grownCap_le_maxLen w (es.length+xs.length) cap e hml
   have hsize:(olds++news++Builtin.zeroCells z.cells (grownCap w (es.length+xs.length) cap e-(es.length+xs.length))).size=grownCap w (es.length+xs.length) cap e*row.sz:=by
    rw[hsz]
    simp only[Array.size_append,size_zeroCells,hzs,So.rep.1,hnews,←Nat.add_mul]
    congr 1;omega
   have hw1:(w.drew.alloc (.cells (olds++news++Builtin.zeroCells z.cells (grownCap w (es.length+xs.length) cap e-(es.length+xs.length))) e)).heap[w.heap.size]? =
       some (.cells (olds++news++Builtin.zeroCells z.cells (grownCap w (es.length+xs.length) cap e-(es.length+xs.length))) row.e (0,0)):=by
    rw[he]
    have:=heap_alloc w.drew (.cells (olds++news++Builtin.zeroCells z.cells (grownCap w (es.length+xs.length) cap e-(es.length+xs.length))) e) w.heap.size
    rw[this];exact if_pos rfl
   obtain⟨b1,b2,b3⟩:=I.rowStep h1 h2 (b:=w.heap.size) (cap:=grownCap w (es.length+xs.length) cap e) (f':=es.length+xs.length) (by omega) hge hcm hsize hw1 (fun k hk=>by simp)
    (fun c hc=>by rw[heap_alloc];exact if_neg hc) (fun hb=>by have:=I.lt_of_box hb;omega) (fun o v hm=>by have:=I.lt_of_mem hm;omega) (fun t' _ hf=>by have:=I.lt_of_free hf;omega) (.inl rfl) (fun x hx=>by have:=I.lt_of_tys hx;omega) ⟨Nat.zero_le _,Nat.le_refl _⟩ rfl rfl rfl (by simp)
   refine⟨_,_,_,hrun,b1,b2,b3,hmem_row _ _ _ _ rfl b1 hge ?_⟩
   have hex:(olds++news++Builtin.zeroCells z.cells (grownCap w (es.length+xs.length) cap e-(es.length+xs.length))).extract 0 ((es.length+xs.length)*i.size)=olds++news:=by
    have :(es.length+xs.length)*i.size=(olds++news).size:=by simp[So.rep.1,hnews,Nat.add_mul]
    rw[this]
    apply Array.ext'
    simp[List.take_of_length_le]
   rw[hex]
   exact So.rep.append S.rep
  cases r with
  |none=>
   have hn0:es.length=0:=hok
   exact fresh none 0 0 rfl hn0.symm (by omega)
  |some bc=>
   obtain⟨b,cap⟩:=bc
   obtain⟨⟨hle,htys⟩,hfr⟩:=hok
   by_cases hfit:es.length+xs.length≤cap
   ·obtain⟨cur,fr,q1,q0,q2,q3,q4,q5⟩:=hfr (by omega)
    rw[hsz] at q2 q4
    have hcur:es.length*i.size+news.size≤cur.size:=by
     rw[hnews,q2,←Nat.add_mul];exact Nat.mul_le_mul_right _ hfit
    rw[he] at q1
    rw[hsz] at q0
    have hrun:=run_append_place (ty:=ty) ht hu hdu hi S b es.length cap cur fr q1 q0 hfit hcur hs
    have hold:∀o v,γ.mem b o=some v→o<es.length*i.size∧cur[o]? =some v:=by
     intro o v hm
     have hlt:o<es.length*i.size:=by
      rcases Nat.lt_or_ge o (es.length*i.size) with h |h
      ·exact h
      ·rw[q4 o h] at hm;cases hm
     have:=I.mem b o v hm
     simp only[World.cell?,q1] at this
     exact⟨hlt,by simpa using this⟩
    have hnew:∀o,o<es.length*i.size→(cur.toList.take (es.length*i.size)++news.toList++cur.toList.drop (es.length*i.size+news.size)).toArray[o]? =cur[o]?:=by
     intro o ho
     have h1:o<(cur.toList.take (es.length*i.size)).length:=by simp;omega
     simp only[List.getElem?_toArray,List.append_assoc]
     rw[List.getElem?_append_left h1,List.getElem?_take,if_pos ho]
     simp
    have hsz2:(cur.toList.take (es.length*i.size)++news.toList++cur.toList.drop (es.length*i.size+news.size)).toArray.size=cap*row.sz:=by
     rw[hsz,←q2];simp;omega
    have hlt2:es.length*i.size≤(es.length+xs.length)*row.sz:=by rw[hsz,Nat.add_mul];omega
    obtain⟨b1,b2,b3⟩:=I.rowStep h1 h2 (b:=b) (cap:=cap) (f':=es.length+xs.length) (fr:=fr) (by omega) hfit q3 hsz2 (by rw[he];exact setRow_heap w b cur _ e fr q1) (fun k hk hk2=>q0 k (by rw[hsz,Nat.add_mul] at hk;omega) (by rw[hsz2,hsz,←q2] at hk2;exact hk2))
     (fun c hc=>setRow_other w b c _ hc) q5 (fun o v hm=>by
      obtain⟨c1,c2⟩:=hold o v hm
      exact⟨by omega,by rw[hnew o c1];exact c2⟩) (fun t' hne hf=>hne (I.free t' tk b hf ⟨row,es.length,cap,h1,h2,hr,by omega⟩)) (.inr ⟨row,es.length,cap,h1,h2,hr,by omega⟩) (fun x hx=>by rw[htys] at hx;exact(Option.some.inj hx).symm) (by
     obtain⟨us,fru,z1,z2,z3⟩:=I.tys _ _ _ htys
     rw[he,q1] at z1;cases z1;exact z3) rfl rfl rfl (by simp[World.setRow])
    refine⟨_,_,_,hrun,b1,b2,b3,hmem_row _ _ _ _ rfl b1 hfit ?_⟩
    have hex:((cur.toList.take (es.length*i.size)++news.toList++cur.toList.drop (es.length*i.size+news.size)).toArray).extract 0 ((es.length+xs.length)*i.size)=(cur.toList.take (es.length*i.size)).toArray++news:=by
     have hl:(cur.toList.take (es.length*i.size)).length=es.length*i.size:=by simp;omega
     have :(es.length+xs.length)*i.size=((cur.toList.take (es.length*i.size))++news.toList).length:=by simp only[List.length_append,hl,Array.length_toList,hnews,Nat.add_mul]
     apply Array.ext'
     simp only[Array.toList_extract,List.extract_eq_take_drop,List.drop_zero,Nat.sub_zero,Array.toList_append]
     rw[this]
     exact List.take_left
    rw[hex]
    refine(repE_cells hv ?_ (fun o v ho hm=>?_)).append S.rep
    ·simp;omega
    ·obtain⟨c1,c2⟩:=hold o v hm
     simp only[List.getElem?_toArray,List.getElem?_take,if_pos c1]
     simpa using c2
   ·exact fresh _ _ cap rfl rfl (by omega)
end
theorem length_set_append(l:List Nat)(x y:Nat):(l++[x]).set l.length y=l++[y]:=by simp
theorem done_append(I:Inv G γ H w)(E:EnvRep γ env a.tmps){t u e:TypeId}{s x:Operand}{s' x':Opd}{i:TypeInfo}{z:Value}{du:TypeDesc}(ho:o.op= .call {callee:=.builtin .append,args:=#[s,x],argTypes:=#[t,u]})
    (ht:P.underlying t=some (.slice e)) (hu:P.underlying u=some du) (hdu:(∃e',du= .slice e')∨du= .string) (hi:P.info? e=some i) (hz:i.zero=some z) (hzs:z.cells.size=i.size) (hsp:0<i.size)
    (hs:opdOf s=some s') (hx:opdOf x=some x') {d:D} {H':Hp} (he:evK G env H (.append e i.size i.bytes s' x')=some (d,H')):Done P G γ H w a o d H':=by
 have hsr:=opdOf_rep E hs
 have hxr:=opdOf_rep E hx
 simp only[evK] at he
 split at he
 ·rename_i xs hxs
  obtain⟨⟨news,S⟩,_⟩:=srcH_of (P:=P) I hsp hxr hxs
  have fin:∀v' w',(Builtin.append_ #[t,u] o.type #[a.eval s,a.eval x]).run P w= .ok v' w'→(execOp a.eval o).run P w= .ok (.value v') w':=by
   intro v' w' h
   simp[execOp,ho,resolve,invoke,builtin,h]
  unfold appendD at he
  split at he
  ·
   rename_i hn
   split at he
   ·rename_i hroom
    cases he
    rw[hn] at hsr
    have hv:=hsr.p_inv.nils_inv
    let row:Row:=⟨e,i.size,fun n=>if n=0 then some none else none⟩
    obtain⟨b1,b2,b3⟩:=I.addTok row 0 none rfl (fun n x hx=>by
     simp only[row] at hx
     split at hx
     ·omega
     ·cases hx) rfl (fun _ _ h=>by cases h) (fun n b cap hx=>by
     simp only[row] at hx
     split at hx<;>cases hx)
    obtain⟨v',w',γ',c1,c2,c3,c4,c5⟩:=append_core (ty:=o.type) ht hu hdu hi hz hzs hsp (γ:={γ with rows:=γ.rows++[row]}) S b3 (tk:=H.tk.length) (row:=row) (es:=[]) (r:=none)
     (by show(γ.rows++[row])[H.tk.length]? =_;rw[←I.lenT];simp) (by simp) rfl rfl rfl (.sl0 _ _ _) (by simpa using hroom)
    simp only[List.length_nil,Nat.zero_add,length_set_append,List.nil_append] at c3 c4 c5
    refine⟨v',w',γ',.inl (fin v' w' ?_),b1.trans c2,b2.trans b1.base c3,c4,c5⟩
    rw[hv];exact c1
   ·cases he
  ·rename_i e' sz' es hn
   split at he
   ·rename_i hc
    obtain⟨rfl,rfl,hroom⟩:=hc
    cases he
    rw[hn] at hsr
    generalize hev:a.eval s=v at hsr
    cases hsr with
    |fsl b n e sz es' hbase hty hlen hrep=>
     subst hlen
     let row:Row:=⟨e',i.size,fun n=>if n=es.length then some (some (b,es.length)) else none⟩
     obtain⟨b1,b2,b3⟩:=I.addTok row es.length (some (b,es.length)) (by simp[row]) (fun n x hx=>by
      simp only[row] at hx
      split at hx
      ·omega
      ·cases hx) ⟨⟨Nat.le_refl _,hty⟩,fun h=>by omega⟩ (fun _ _ h=>by cases h;rfl) (fun n b' cap hx=>by
      simp only[row] at hx
      split at hx
      ·cases hx;exact hbase
      ·cases hx)
     obtain⟨v',w',γ',c1,c2,c3,c4,c5⟩:=append_core (ty:=o.type) ht hu hdu hi hz hzs hsp (γ:={γ with rows:=γ.rows++[row]}) S b3 (tk:=H.tk.length) (row:=row) (es:=es) (r:=some (b,es.length))
      (by show(γ.rows++[row])[H.tk.length]? =_;rw[←I.lenT];simp) (by simp) rfl rfl (by simp[row]) hrep hroom
     simp only[length_set_append] at c3 c4 c5
     refine⟨v',w',γ',.inl (fin v' w' ?_),b1.trans c2,b2.trans b1.base c3,c4,c5⟩
     rw[hev];exact c1
   ·cases he
  ·rename_i tk e' sz' es hn
   split at he
   ·rename_i hc
    obtain⟨rfl,rfl,htk,hroom⟩:=hc
    cases he
    rw[hn] at hsr
    generalize hev:a.eval s=v at hsr
    cases hsr with
    |tsl _ _ _ _ _ row r h1 h2 h3 h4 h5 h6=>
     subst h6
     obtain⟨v',w',γ',c1,c2,c3,c4,c5⟩:=append_core (ty:=o.type) ht hu hdu hi hz hzs hsp S I h1 htk h2 h3 h5 h4 hroom
     refine⟨v',w',γ',.inl (fin v' w' ?_),c2,c3,c4,c5⟩
     rw[hev];exact c1
   ·cases he
  ·cases he
 ·cases he
theorem bytesOf_some:∀{xs:List PD} {s:List UInt8},bytesOf xs=some s→∃ns:List Int,xs=ns.map (fun n=>PD.int .u8 n)∧s=ns.map fun n=>UInt8.ofNat n.toNat:=by
 intro xs
 induction xs with
 |nil=>intro s h;simp only[bytesOf] at h;cases h;exact⟨[],rfl,rfl⟩
 |cons x r ih=>
  intro s h
  unfold bytesOf at h
  split at h
  ·rename_i e;cases e
  ·rename_i n r' e
   cases e
   obtain⟨s',hs,rfl⟩:=Option.map_eq_some_iff.1 h
   obtain⟨ns,rfl,rfl⟩:=ih hs
   exact⟨n::ns,rfl,rfl⟩
  ·cases h
theorem done_toStr(I:Inv G γ H w)(E:EnvRep γ env a.tmps){s t e:TypeId}{x:Operand}{x':Opd}(ho:o.op= .convert s t x)(hs:P.underlying s=some (.slice e))(hel:P.underlying e=some (.int .u8))(ht:P.underlying t=some .string)(hx:opdOf x=some x')
    {d:D} {H':Hp} (he:evK G env H (.toStr x')=some (d,H')):Done P G γ H w a o d H':=by
 have hxr:=opdOf_rep E hx
 simp only[evK] at he
 split at he
 ·rename_i xs hxs
  obtain⟨str,hstr,hh⟩:=Option.map_eq_some_iff.1 he
  cases hh
  obtain⟨ns,rfl,rfl⟩:=bytesOf_some hstr
  refine .same I (v:=.string ⟨(ns.map fun n=>UInt8.ofNat n.toNat).toArray⟩) ?_ (.p _ _ (.str _))
  have nilcase:∀ad l c,a.eval x= .slice ad l c→ns=[]→l=0→(execOp a.eval o).run P w= .ok (.value (.string ⟨(ns.map fun n=>UInt8.ofNat n.toNat).toArray⟩)) w:=by
   intro ad l c hv hns hl
   subst hns;subst hl
   cases ad with
   |none=>
    have:=run_convert_bytes_nil (P:=P) w s e hs hel 0 c t ht
    simp[execOp,ho,hv,this,ByteArray.empty,ByteArray.emptyWithCapacity]
    rfl
   |some ad=>
    have:=run_convert_bytes_back (P:=P) w s t e ad c [] hs hel ht (fun j hj=>by simp at hj)
    simp[execOp,ho,hv] at this⊢
    simp[this]
  unfold srcBH at hxs
  split at hxs
  ·rename_i i off n cap sz' hn
   split at hxs
   ·rename_i hsz
    subst hsz
    rw[hn] at hxr
    generalize hv:a.eval x=v at hxr
    cases hxr with
    |msl _ _ _ _ _ b c hb hc hcap=>
     obtain⟨hl,news,h1,h2⟩:=mread_rep I (by omega) hb hxs
     have hl:ns.length=n:=by simpa using hl
     by_cases h0:ns=[]
     ·exact nilcase _ _ _ hv h0 (by rw[←hl,h0];rfl)
     ·have hget:∀k,k<ns.length→w.cell? ⟨b,off+k,none⟩=some (.int .u8 (ns.getD k 0)):=by
       intro k hk
       have hr:=h1.2.2 k (.int .u8 ns[k]) 0 (.int .u8 ns[k]) (by simp[hk]) rfl
       have hks:k<news.size:=by rw[h1.1];simpa using hk
       have e1:news.getD (k*1+0) undef=news[k]:=by simp[Array.getD_eq_getD_getElem?,hks]
       rw[e1] at hr
       have:=h2 k news[k] (Array.getElem?_eq_getElem hks)
       rw[this,hr.int_inv]
       simp[List.getD,hk]
      have q:=run_convert_bytes_arg (P:=P) w s e hs hel b off n c ns hl (fun k hk=>hget k (by omega)) t ht
      simp[execOp,ho,hv,q,strOfNums]
   ·cases hxs
  unfold srcB at hxs
  split at hxs
  ·rename_i hn
   rw[hn] at hxr
   have hns:ns=[]:=by cases ns with |nil=>rfl |cons=>cases hxs
   exact nilcase _ _ _ hxr.p_inv.nils_inv hns rfl
  ·split at hxs
   ·rename_i sz' es hel'
    split at hxs
    ·rename_i hsz
     subst hsz
     cases hxs
     obtain⟨ad,cap,hv,hcap,hne⟩:=slice_inv (elems?_rep hxr hel')
     by_cases h0:ns=[]
     ·exact nilcase _ _ _ hv h0 (by simp[h0])
     ·obtain⟨b,off,vs,rfl,h1,h2,h3,h4⟩:=hne (by simpa using h0)
      have q:=run_convert_bytes_arg (P:=P) w s e hs hel b off ns.length cap ns rfl (fun k hk=>by
       have hm:=I.mem _ _ _ (h3 k 0 (by simpa using hk) (by omega))
       have hr:=h4 k (.int .u8 ns[k]) 0 (.int .u8 ns[k]) (by simp[hk]) rfl
       rw[hr.int_inv] at hm
       simp only[Nat.mul_one,Nat.add_zero] at hm
       rw[hm]
       simp[List.getD,hk]) t ht
      have hlen:(List.map (fun n=>PD.int IntKind.u8 n) ns).length=ns.length:=by simp
      rw[hlen] at hv
      simp[execOp,ho,hv,q,strOfNums]
    ·cases hxs
   ·cases hxs
 ·cases he
theorem done_toBytes(I:Inv G γ H w)(E:EnvRep γ env a.tmps){s t e:TypeId}{x:Operand}{x':Opd}(ho:o.op= .convert s t x)(hs:P.underlying s=some .string)(ht:P.underlying t=some (.slice e))(hel:P.underlying e=some (.int .u8))(hx:opdOf x=some x')
    {d:D} {H':Hp} (he:evK G env H (.toBytes e x')=some (d,H')):Done P G γ H w a o d H':=by
 have hxr:=opdOf_rep E hx
 simp only[evK,toBytesD] at he
 split at he
 ·rename_i str hstr
  split at he
  ·rename_i hlim
   cases he
   rw[hstr] at hxr
   have hv:=hxr.p_inv.str_inv
   have hsz:(⟨str.toArray⟩:ByteArray).size=str.length:=by simp[ByteArray.size]
   have hrun:=run_bytes_of_string w s t e ⟨str.toArray⟩ hs ht hel
   rw[hsz] at hrun
   have hge:=grownCap_ge w str.length 0 e
   have hml:str.length≤maxLen:=by simp only[maxLen];omega
   have hcm:=grownCap_le_maxLen w str.length 0 e hml
   obtain⟨b1,b2,b3⟩:=I.drew.newRow0 (bytesRow ⟨str.toArray⟩ (grownCap w str.length 0 e)) e ((bytesRow ⟨str.toArray⟩ (grownCap w str.length 0 e)).size,(bytesRow ⟨str.toArray⟩ (grownCap w str.length 0 e)).size+1)
   refine⟨.slice (some ⟨w.heap.size,0,none⟩) str.length (grownCap w str.length 0 e),_,_,.inl (by simp[execOp,ho,hv,hrun]),b1,(Frame.drew γ H w).trans rfl b2,b3,?_⟩
   have hre:RepE γ.mem 1 ((str.map fun b=>Value.int .u8 b.toNat).toArray) (str.map fun b=>PD.int .u8 b.toNat):=by
    refine⟨by simp,fun e he=>?_,fun i e j c he hc=>?_⟩
    ·obtain⟨b,_,rfl⟩:=List.mem_map.1 he
     exact⟨rfl,fun c hc=>by simp[PD.cells] at hc;subst hc;rfl⟩
    ·simp only[List.getElem?_map,Option.map_eq_some_iff] at he
     obtain⟨b,hb,rfl⟩:=he
     match j with
     | 0=>
      simp only[PD.cells,List.getElem?_cons_zero,Option.some.injEq] at hc
      subst hc
      have :((str.map fun b=>Value.int .u8 b.toNat).toArray).getD (i*1+0) undef= .int .u8 b.toNat:=by simp[Array.getD_eq_getD_getElem?,hb]
      rw[this];exact .int _ _
     |j+1=>simp[PD.cells] at hc
   have hre':=(hre.mono b1.mem).slice (b:=w.heap.size) (cap:=grownCap w str.length 0 e) (by simpa using hge) (fun k hk=>by
    have hk:k<str.length:=by simpa using hk
    have hd:w.drew.heap.size=w.heap.size:=rfl
    simp only[Gh.asPD0,hd,if_true]
    simp[bytesRow,Array.getElem?_append,hk])
   exact .p _ _ (by simpa using hre')
  ·cases he
 ·cases he
end Go.Vs
namespace Go.Vs
variable {P : Program} {G : Nat → Option (List PD)} {γ : Gh} {H : Hp} {w : World} {env : Env} {a : Act} {o : Oper}
def frzR(fr:Nat×Nat)(n:Nat):Nat×Nat:=if fr.1==fr.2 then(0,0+n) else(min fr.1 0,max fr.2 (0+n))
theorem freeze_heap{b n:Nat}{cs:Array Value}{T:Nat}{fr:Nat×Nat}(hn:0<n)(hb:w.heap[b]? =some (.cells cs T fr))(c:Nat):
    (w.freeze ⟨b,0,none⟩ n).heap[c]? =if c=b then some (.cells cs T (frzR fr n)) else w.heap[c]?:=by
 have hn0:¬n=0:=by omega
 simp only[World.freeze,hn0,if_false,Array.getElem?_modify]
 by_cases h:c=b
 ·subst h
  rw[if_pos rfl,if_pos rfl,hb]
  rfl
 ·rw[if_neg (Ne.symm h),if_neg h]
theorem frzR_in{fr:Nat×Nat}{n k:Nat}(h:(frzR fr n).1≤k∧k<(frzR fr n).2):k<n∨(fr.1<fr.2∧k<fr.2)∨fr.2<fr.1:=by
 unfold frzR at h
 split at h
 ·exact .inl (by simpa using h.2)
 ·rename_i hne
  have hne:fr.1≠fr.2:=by simpa using hne
  simp at h
  by_cases hk:k<n
  ·exact .inl hk
  ·by_cases h2:fr.1<fr.2
   ·exact .inr (.inl ⟨h2,by omega⟩)
   ·exact .inr (.inr (by omega))
theorem Inv.freeze(I:Inv G γ H w){b n:Nat}{cs:Array Value}{T:Nat}{fr:Nat×Nat}(hn:0<n)(hb:w.heap[b]? =some (.cells cs T fr))(hbase:γ.base≤b)(hk:∀k,k<n→γ.mem b k≠none)
    (hle:n≤cs.size) (hfr:∀k,k<cs.size→(frzR fr n).1≤k∧k<(frzR fr n).2→(fr.1≤k∧k<fr.2)∨γ.mem b k≠none):
    Frame γ H w γ H (w.freeze ⟨b,0,none⟩ n)∧Inv G γ H (w.freeze ⟨b,0,none⟩ n):=by
 have hh:=freeze_heap (w:=w) hn hb
 have hn0:¬n=0:=by omega
 have hsim:∀c,Sim (γ.mem c) (w.heap[c]?) ((w.freeze ⟨b,0,none⟩ n).heap[c]?):=by
  intro c
  rw[hh c]
  by_cases h:c=b
  ·subst h
   rw[if_pos rfl]
   exact .inr ⟨cs,T,fr,frzR fr n,hb,rfl,hfr⟩
  ·rw[if_neg h];exact .refl _ _
 have hsz:(w.freeze ⟨b,0,none⟩ n).heap.size=w.heap.size:=by simp[World.freeze,hn0]
 refine⟨⟨by simp[World.freeze,hn0],by simp[World.freeze,hn0],by simp[World.freeze,hn0],by omega,fun c _ _=>⟨fun hc=>?_,hsim c⟩,fun _ _ _ _=>rfl,fun _ h=>.inl h,fun _ _ h=>.inl h⟩,?_⟩
 ·rw[hh c,if_neg (by omega)]
 ·have hcell:∀c q,(w.freeze ⟨b,0,none⟩ n).cell? ⟨c,q,none⟩=w.cell? ⟨c,q,none⟩:=by
   intro c q
   unfold World.cell?
   simp only[hh c]
   by_cases h:c=b
   ·subst h;simp[hb]
   ·simp[h]
  constructor
  ·rw[hsz];exact I.size
  ·intro c T' m hc
   obtain⟨us,fr',h2,h3,h4⟩:=I.tys c T' m hc
   rw[hh c]
   by_cases h:c=b
   ·subst h
    rw[if_pos rfl]
    rw[hb] at h2
    cases h2
    refine⟨_,_,rfl,h3,?_⟩
    unfold frzR
    split<;>simp<;>omega
   ·rw[if_neg h];exact⟨us,fr',h2,h3,h4⟩
  ·exact I.rowb
  ·intro c q v h
   rw[hcell];exact I.mem c q v h
  ·exact I.globs
  ·exact I.lenB
  ·exact I.nodup
  ·intro i c cs' hc hcs
   obtain⟨vs',T',fr',a1,a2⟩:=I.box i c cs' hc hcs
   have hne:c≠b:=fun e=>by
    subst e
    exact hk 0 hn (I.boxmem c 0 (List.mem_of_getElem? hc))
   exact⟨vs',T',fr',by rw[hh c,if_neg hne];exact a1,a2⟩
  ·exact I.boxmem
  ·exact I.lenT
  ·intro t row f h1 h2
   obtain⟨r,a1,a2⟩:=I.row t row f h1 h2
   exact⟨r,a1,a2.sim (fun _ _ h=>h) (fun c _ _ _=>hsim c) (fun _ _ _ _ _=>rfl) (fun _ _ _ _ h=>h)⟩
  ·exact I.rowmax
  ·exact I.free
theorem isPtr_some{t:TypeId}(h:isPtr P t=true):∃e,P.underlying t=some (.pointer e):=by
 unfold isPtr at h
 split at h
 ·exact⟨_,by assumption⟩
 ·cases h
theorem done_sdata(I:Inv G γ H w)(E:EnvRep γ env a.tmps){x:Operand}{x':Opd}{ts:Array TypeId}(ho:o.op= .call {callee:=.builtin .unsafeSliceData,args:=#[x],argTypes:=ts})(hp:isPtr P o.type=true)(hx:opdOf x=some x')
    {d:D} {H':Hp} (he:evK G env H (.sdata x')=some (d,H')):Done P G γ H w a o d H':=by
 have hxr:=opdOf_rep E hx
 obtain⟨ep,hp⟩:=isPtr_some hp
 simp only[evK] at he
 obtain⟨d0,hd,hh⟩:=Option.map_eq_some_iff.1 he
 cases hh
 have fin:∀v w',(Builtin.unsafeSliceData_ ts o.type #[a.eval x]).run P w= .ok v w'→(execOp a.eval o).run P w= .ok (.value v) w':=by
  intro v w' h
  simp[execOp,ho,resolve,invoke,builtin,h]
 unfold sdataD at hd
 split at hd
 ·rename_i hn
  cases hd
  rw[hn] at hxr
  have hv:=hxr.p_inv.nils_inv
  exact .same I (fin _ _ (by rw[hv];rfl)) (.p _ _ .nilp)
 ·rename_i t e sz es hn
  rw[hn] at hxr
  generalize hev:a.eval x=v at hxr
  cases hxr with
  |tsl _ _ _ _ _ row r h1 h2 h3 h4 h5 h6=>
   subst h6
   cases r with
   |none=>
    have he0:es=[]:=by
     obtain⟨ad,cap',hv,_,hne⟩:=slice_inv h4
     by_cases h0:es=[]
     ·exact h0
     ·obtain⟨b',o',vs,hb,_⟩:=hne h0
      subst hb
      simp[rowVal] at hv
    subst he0
    simp only[List.isEmpty_nil,if_true] at hd
    split at hd
    ·cases hd
     exact .same I (fin _ _ (by rw[hev];rfl)) (.anyp _)
    ·cases hd
   |some bc=>
    obtain⟨b,cap⟩:=bc
    by_cases h0:es=[]
    ·subst h0
     simp only[List.isEmpty_nil,if_true] at hd
     split at hd
     ·rename_i hf
      cases hd
      by_cases hc:cap=0
      ·subst hc
       obtain⟨r',q1,q2⟩:=I.row t row 0 h1 hf
       have h5:row.st 0=some (some (b,0)):=h5
       rw[h5] at q1
       cases q1
       obtain⟨us,fr,q3,_⟩:=I.tys _ _ _ q2.1.2
       have hsh:w.shape? b=some (row.e,us.size):=by simp[World.shape?,q3]
       have hrun:=Lib.run_unsafeSliceData_zero (P:=P) w ts o.type ep hp ⟨b,0,none⟩ 0 _ hsh
       obtain⟨F,J⟩:=I.allocObj (.view ⟨b,0,none⟩ ep)
       exact⟨_,_,γ,.inl (fin _ _ (by rw[hev];exact hrun)),.refl γ,F,J,.anyp _⟩
      ·exact .same I (fin _ _ (by rw[hev];exact Lib.run_unsafeSliceData_row (P:=P) w ts o.type _ _ cap hc)) (.anyp _)
     ·cases hd
    ·have hpos:0<es.length:=List.length_pos_iff.2 h0
     rw[if_neg (by simpa using h0)] at hd
     cases hd
     obtain⟨ad,cap',hv,hcap,_⟩:=slice_inv h4
     have hc:cap≠0:=by
      have :cap=cap':=by simp[rowVal] at hv;exact hv.2
      omega
     exact .same I (fin _ _ (by rw[hev];exact Lib.run_unsafeSliceData_row (P:=P) w ts o.type _ _ cap hc)) (.dptr b es.length cap _ (.tsl _ t e sz es row (some (b,cap)) h1 h2 h3 h4 h5 rfl) hpos (I.rowb t row _ b cap h1 h5))
 ·rename_i e sz es hn
  split at hd
  ·cases hd
  ·rename_i h0
   cases hd
   have h0:es≠[]:=by simpa using h0
   have hpos:0<es.length:=List.length_pos_iff.2 h0
   rw[hn] at hxr
   generalize hev:a.eval x=v at hxr
   cases hxr with
   |fsl b n _ _ _ hb ht hlen hrep=>
    subst hlen
    exact .same I (fin _ _ (by rw[hev];exact Lib.run_unsafeSliceData_row (P:=P) w ts o.type _ _ es.length (by omega))) (.dptr b es.length es.length _ (.fsl b es.length e sz es hb ht rfl hrep) hpos hb)
 ·cases hd
theorem run_loadBytes:∀(l:List Int) (b off:Nat) (acc:ByteArray),(∀j x,l[j]? =some x→w.cell? ⟨b,off+j,none⟩=some (.int .u8 x))→
    (loadBytes ⟨b,off,none⟩ acc l.length).run P w= .ok ⟨acc.data++(l.map fun n=>UInt8.ofNat n.toNat).toArray⟩ w
 |[],b,off,acc,_=>by simp[loadBytes]
 |x::l,b,off,acc,h=>by
  have h0:w.cell? ⟨b,off,none⟩=some (.int .u8 x):=h 0 x rfl
  have ih:=run_loadBytes l b (off+1) (acc.push (x.toNat.toUInt8)) (fun j y hy=>by
   have:=h (j+1) y (by simpa using hy)
   have e:off+1+j=off+(j+1):=by omega
   rw[e];exact this)
  have hadd:(⟨b,off,none⟩:Addr).add 1=⟨b,off+1,none⟩:=by simp[Addr.add]
  simp only[List.length_cons,loadBytes,Sem.run_bind,run_load,h0,Result.andThen,hadd]
  rw[ih]
  congr 1
  apply ByteArray.ext
  simp[ByteArray.push]
theorem done_ustr(I:Inv G γ H w)(E:EnvRep γ env a.tmps){x n:Operand}{x' n':Opd}{t it e:TypeId}(ho:o.op= .call {callee:=.builtin .unsafeString,args:=#[x,n],argTypes:=#[t,it]})(hp:P.underlying t=some (.pointer e))(hc:P.cellsOf e=1)
    (hx:opdOf x=some x') (hn:opdOf n=some n') {d:D} {H':Hp} (he:evK G env H (.ustr e x' n')=some (d,H')):Done P G γ H w a o d H':=by
 have hxr:=opdOf_rep E hx
 have hnr:=opdOf_rep E hn
 simp only[evK] at he
 have fin:∀v w',(Builtin.unsafeString_ #[t,it] o.type #[a.eval x,a.eval n]).run P w= .ok v w'→(execOp a.eval o).run P w= .ok (.value v) w':=by
  intro v w' h
  simp[execOp,ho,resolve,invoke,builtin,h]
 unfold ustrD at he
 split at he
 ·rename_i m hm
  rw[hm] at hnr
  have hnv:=hnr.p_inv.int_inv
  have none':∀p,a.eval x= .pointer p→m=0→Done P G γ H w a o (.p (.str [])) H:=by
   intro p hv h0
   subst h0
   exact .same I (fin _ _ (by rw[hv,hnv];exact Lib.run_unsafeString_none (P:=P) w t it o.type p)) (.p _ _ (.str []))
  split at he
  ·rename_i hxx
   rw[hxx] at hxr
   split at he
   ·rename_i h0
    cases he
    exact none' _ hxr.p_inv.nilp_inv h0
   ·cases he
  ·rename_i hxx
   rw[hxx] at hxr
   split at he
   ·rename_i h0
    cases he
    generalize hev:a.eval x=v at hxr
    cases hxr with
    |anyp p=>exact none' p hev h0
   ·cases he
  ·rename_i tk e' sz es hxx
   rw[hxx] at hxr
   split at he
   ·rename_i hcc
    obtain⟨rfl,rfl,rfl,htk,hlim⟩:=hcc
    obtain⟨s,hs,hh⟩:=Option.map_eq_some_iff.1 he
    cases hh
    obtain⟨ns,rfl,rfl⟩:=bytesOf_some hs
    generalize hev:a.eval x=v at hxr
    cases hxr with
    |dptr b n cap _ h hpos hbase=>
     cases h with
     |tsl _ _ _ _ _ row r h1 h2 h3 h4 h5 h6=>
      cases r with
      |none=>simp[rowVal] at h6
      |some bc=>
       obtain⟨b',cap'⟩:=bc
       simp only[rowVal,Value.slice.injEq,Option.some.injEq,Addr.mk.injEq,and_true] at h6
       obtain⟨rfl,rfl,rfl⟩:=h6
       have hne:ns≠[]:=by intro h;subst h;simp at hpos
       obtain⟨r',q1,q2⟩:=I.row tk row _ h1 htk
       rw[h5] at q1
       cases q1
       obtain⟨us,fr,z1,z2,z3,z4⟩:=I.tys _ _ _ q2.1.2
       rw[h3,Nat.mul_one] at z2 z3
       have hlen:(ns.map fun n=>PD.int .u8 n).length=ns.length:=by simp
       simp only[List.length_map] at hlim hpos h5 q2 hev hnv h4 htk
       obtain⟨ad,cap2,hv2,hcap2,hne2⟩:=slice_inv h4
       obtain⟨b2,o2,vs,hb2,g1,g2,g3,g4⟩:=hne2 (by simpa using hne)
       simp only[Value.slice.injEq] at hv2
       rw[hb2] at hv2
       obtain⟨hv2,_,_⟩:=hv2
       cases hv2
       have hmem:∀k,k<ns.length→∃n,ns[k]? =some n∧γ.mem b k=some (.int .u8 n):=by
        intro k hk
        have:=g3 k 0 (by simpa using hk) (by omega)
        have e1:(ns.map fun n=>PD.int .u8 n)[k]? =some (.int .u8 (ns[k])):=by simp[hk]
        have q:=g4 k _ 0 _ e1 rfl
        have hvv:=q.int_inv
        rw[hvv] at this
        simp only[Nat.zero_add,Nat.mul_one,Nat.add_zero] at this
        exact⟨ns[k],List.getElem?_eq_getElem hk,this⟩
       have hcell:∀j x,ns[j]? =some x→w.cell? ⟨b,0+j,none⟩=some (.int .u8 x):=by
        intro j x hj
        obtain⟨n,hn1,hn2⟩:=hmem j (List.getElem?_eq_some_iff.1 hj).1
        rw[hj] at hn1
        cases hn1
        rw[Nat.zero_add]
        exact I.mem _ _ _ hn2
       have hle:ns.length≤us.size:=by rw[z2];exact q2.1.1
       have hlb:=run_loadBytes (P:=P) (w:=w) ns b 0 .empty hcell
       have hrun:(Builtin.unsafeString_ #[t,it] o.type #[.pointer (some ⟨b,0,none⟩),.int .i64 (ns.length:Int)]).run P w= .ok (.string ⟨(ns.map fun n=>UInt8.ofNat n.toNat).toArray⟩) (w.freeze ⟨b,0,none⟩ ns.length):=by
        have hl:ns.length≠0:=by simpa using hne
        have hsh:w.shape? b=some (e',us.size):=by simp[World.shape?,z1,h2]
        have hlies:=Lib.liesAt_bytes (P:=P) hc (us.size/P.cellsOf e') ns.length (by rw[hc];simpa using hle)
        have h63':¬(9223372036854775807 :Int)<(ns.length:Int):=by omega
        have hdef:Builtin.unsafeString_ #[t,it] o.type #[.pointer (some ⟨b,0,none⟩),.int .i64 ns.length]=
            (do
             let n ←asInt (.int .i64 ns.length)
             if n<0 then runtimePanic (.error "unsafe.String: len out of range")
             if n>IntKind.i64.max then unsupported (.unsafePointer "String: a length above the largest int")
             if n=0 then pure (.string .empty)
             else if ←variablesAt ⟨b,0,none⟩ (←elemOf t) n.toNat then do
              let s ←loadBytes ⟨b,0,none⟩ .empty n.toNat
              freeze ⟨b,0,none⟩ n.toNat
              pure (.string s)
             else unsupported (.unsafePointer "String: not so many bytes at ptr")):=rfl
        rw[hdef]
        have hmax:IntKind.i64.max=9223372036854775807:=rfl
        have hneg:¬(ns.length:Int)<0:=by omega
        simp[asInt,asIntOf,hmax,h63',hneg,hl,variablesAt,hsh,elemOf,run_underlying hp,hlies,hlb]
       obtain⟨F,J⟩:=I.freeze (b:=b) (n:=ns.length) (by simpa using hpos) z1 (I.rowb tk row _ b cap h1 h5) (fun k hk=>by
        obtain⟨n,_,hn2⟩:=hmem k hk
        rw[hn2];simp) hle (fun k hk hin=>by
        by_cases hkn:k<ns.length
        ·obtain⟨n,_,hn2⟩:=hmem k hkn
         exact .inr (by rw[hn2];simp)
        ·rcases frzR_in hin with h |⟨h,h'⟩ |h
         ·exact absurd h hkn
         ·refine .inl ⟨?_,h'⟩
          by_cases hlt:ns.length<cap
          ·obtain⟨cur,fr2,c1,c2,c3,_⟩:=q2.2 hlt
           rw[z1] at c1
           cases c1
           have hfl:fr.1≤k:=by
            rcases Nat.lt_or_ge k fr.1 with hk1 |hk1
            ·exact absurd ⟨Nat.le_refl _,h⟩ (c2 fr.1 (by rw[h3];omega) (by omega))
            ·exact hk1
           exact hfl
          ·omega
         ·omega)
       exact⟨_,_,γ,.inl (fin _ _ (by rw[hev,hnv];simpa using hrun)),.refl γ,F,J,.p _ _ (.str _)⟩
   ·cases he
  ·cases he
 ·cases he
theorem run_eqIn_nili{t:TypeId}{ms:Array (String×TypeId)}(d:Nat)(ht:P.underlying t=some (.interface ms)):(Op.equalIn (d+1) t .nilIface .nilIface).run P w= .ok true w:=by simp[Op.equalIn,run_underlying ht]
theorem run_eqIn_ifc{t:TypeId}{ms:Array (String×TypeId)}(d:Nat)(ht:P.underlying t=some (.interface ms))(u:TypeId)(v:Value):(Op.equalIn (d+1) t (.iface u v) .nilIface).run P w= .ok false w:=by simp[Op.equalIn,run_underlying ht]
theorem done_eqi(I:Inv G γ H w)(E:EnvRep γ env a.tmps){op:BinOp}{t yt:TypeId}{x y:Operand}{x' y':Opd}{ms:Array (String×TypeId)}{yc:Value}(ho:o.op= .binOp op t x y yt)(hop:op= .eql∨op= .neq)(hyc:y= .const yc)(hx:opdOf x=some x')(hy:opdOf y=some y')
    (ht:P.underlying t=some (.interface ms)) {d:D} {H':Hp} (he:evK G env H (.eqk 4 (op== .neq) x' y')=some (d,H')):Done P G γ H w a o d H':=by
 have hxr:=opdOf_rep E hx
 have hyr:=opdOf_rep E hy
 simp only[evK] at he
 obtain⟨r,hd,hh⟩:=Option.map_eq_some_iff.1 he
 cases hh
 have fin:∀u v,a.eval x=u→a.eval y=v→(match u with | .int _ _ | .float _ _ | .complex _ _ _ | .string _=>true |_=>false)=false→(∀cs,u≠.agg cs)→(Op.equal t u v).run P w= .ok r w→
     Done P G γ H w a o (.p (.bool (if op== .neq then !r else r))) H:=by
  intro u v hu hv h1 h2 h4
  refine .same I (v:=.bool (if op== .neq then !r else r)) ?_ (.p _ _ (.bool _))
  have e:(eqGuard op t x y u v).run P w= .ok () w:=by
   by_cases hb:u= .nilIface∧v= .nilIface
   ·obtain⟨rfl,rfl⟩:=hb
    rcases hop with rfl |rfl<;>simp[eqGuard,hyc]
   ·exact run_eqGuard_ok (P:=P) (op:=op) (t:=t) (x:=x) (y:=y) (u:=u) (v:=v) hb (fun cs _ h=>h2 cs h.1) w
  have q:=run_eqneq hop h1 h4
  simp[execOp,ho,hu,hv,e,q]
 simp only[eqD] at hd
 split at hd
 ·rename_i e1 e2
  cases hd
  rw[e1] at hxr;rw[e2] at hyr
  have h1:a.eval x= .nilIface:=by have:=hxr.p_inv;generalize a.eval x=v at this;cases this;rfl
  have h2:a.eval y= .nilIface:=by have:=hyr.p_inv;generalize a.eval y=v at this;cases this;rfl
  exact fin _ _ h1 h2 rfl (by simp) (by rw[equal_succ];exact run_eqIn_nili _ ht)
 ·rename_i e1 e2
  cases hd
  rw[e1] at hxr;rw[e2] at hyr
  have h1:∃t v,a.eval x= .iface t v:=by have:=hxr.p_inv;generalize a.eval x=v at this;cases this;exact⟨_,_,rfl⟩
  have h2:a.eval y= .nilIface:=by have:=hyr.p_inv;generalize a.eval y=v at this;cases this;rfl
  obtain⟨t',v',h1⟩:=h1
  exact fin _ _ h1 h2 rfl (by simp) (by rw[equal_succ];exact run_eqIn_ifc _ ht _ _)
 ·rename_i e1 e2
  cases hd
  rw[e1] at hxr;rw[e2] at hyr
  have h1:∃t v,a.eval x= .iface t v:=by generalize a.eval x=v at hxr;cases hxr;exact⟨_,_,rfl⟩
  have h2:a.eval y= .nilIface:=by have:=hyr.p_inv;generalize a.eval y=v at this;cases this;rfl
  obtain⟨t',v',h1⟩:=h1
  exact fin _ _ h1 h2 rfl (by simp) (by rw[equal_succ];exact run_eqIn_ifc _ ht _ _)
 ·cases hd
theorem allocBD_ok(I:Inv G γ H w){T:Nat}{v:Value}{cs:List D}(q:RepL γ v.cells cs){d:D}{H':Hp}(he:allocBD T cs H=some (d,H')):
    ∃γ',γ.le γ'∧Frame γ H w γ' H' (w.alloc (.cells v.cells T))∧Inv G γ' H' (w.alloc (.cells v.cells T))∧RepD γ' (.pointer (some ⟨w.heap.size,0,none⟩)) d:=by
 unfold allocBD at he
 split at he
 ·rename_i r
  split at he
  ·rename_i hall
   cases he
   have hall:∀c∈r,c.one=true:=by simpa[List.all_eq_true] using hall
   obtain⟨γ',a1,a2,a3,a4⟩:=I.newBoxT (vs:=v.cells) (cs:=.fresh T (r.length+1) H.bx.length::r) T (fun γ' hle hb ht=>by
    refine⟨Nat.le_of_eq q.1.symm,fun i d hd=>?_⟩
    match i with
    | 0=>
     simp only[List.getElem?_cons_zero,Option.some.injEq] at hd
     subst hd
     have:=(q.2 0 _ rfl).p_inv.nilp_inv
     rw[this]
     have hl:v.cells.size=r.length+1:=by simpa using q.1
     rw[hl] at ht
     exact .fresh T _ _ _ hb ht
    |i+1=>exact(q.2 (i+1) d hd).mono hle) (fun c hc=>by
    rcases List.mem_cons.1 hc with rfl |h
    ·rfl
    ·exact hall c h)
   exact⟨γ',a1,a3,a4,.box _ _ _ a2⟩
  ·cases he
 ·cases he
theorem done_allocB(I:Inv G γ H w){e:TypeId}{z:PD}(ho:o.op= .alloc e)(hz:zeroOf P e=some z){d:D}{H':Hp}(he:evK G env H (.allocB e z.cells)=some (d,H')):Done P G γ H w a o d H':=by
 simp only[evK] at he
 obtain⟨v,q1,q2⟩:=run_zeroOf hz w
 obtain⟨r1,r2⟩:=(ofV_rep γ.mem q2).cells
 obtain⟨γ',a1,a2,a3,a4⟩:=allocBD_ok I (repL_p r1 fun i d hd=>(r2 i d hd).1) he
 exact⟨.pointer (some ⟨w.heap.size,0,none⟩),_,γ',.inl (by simp[execOp,ho,Instr.alloc,q1,newVar,newRow]),a1,a2,a3,a4⟩
theorem cellsB_rep{γ:Gh}{v:Value}{d:D}(r:RepD γ v d)(h:(match d.cells with | .p .nilp::q=>q.all D.one |_=>false)=true):RepL γ v.cells d.cells:=by
 split at h
 ·rename_i q hq
  have :d.cells.all D.one=true:=by rw[hq];simpa[D.one,PD.one] using h
  exact(r.cells this).1
 ·cases h
theorem done_boxB(I:Inv G γ H w)(E:EnvRep γ env a.tmps){e:TypeId}{x:Operand}{y:Opd}(ho:o.op= .box e x)(hx:opdOf x=some y){d:D}{H':Hp}(he:evK G env H (.boxB e y)=some (d,H')):Done P G γ H w a o d H':=by
 have hxr:=opdOf_rep E hx
 simp only[evK] at he
 have hc:(match(y.ev env).cells with | .p .nilp::q=>q.all D.one |_=>false)=true:=by
  unfold allocBD at he
  split at he
  ·rename_i r hr
   split at he
   ·rename_i h;rw[hr];exact h
   ·cases he
  ·cases he
 obtain⟨γ',a1,a2,a3,a4⟩:=allocBD_ok I (cellsB_rep hxr hc) he
 exact⟨.pointer (some ⟨w.heap.size,0,none⟩),_,γ',.inl (by simp[execOp,ho,Instr.box,newVar,newRow]),a1,a2,a3,a4⟩
theorem flat_rep{m:Mem}{sz:Nat}{cs:Array Value}:∀(es:List PD) (base:Nat),(∀e∈es,e.cells.length=sz)→(∀(i:Nat) e (j:Nat) c,es[i]? =some e→e.cells[j]? =some c→RepP m (cs.getD ((base+i)*sz+j) undef) c)→
    ∀(k:Nat) c,(es.flatMap PD.cells)[k]? =some c→RepP m (cs.getD (base*sz+k) undef) c
 |[],base,_,_,k,c,h=>by simp at h
 |e::es,base,h1,h2,k,c,h=>by
  rw[List.flatMap_cons] at h
  have he:=h1 e (by simp)
  by_cases hk:k<e.cells.length
  ·rw[List.getElem?_append_left hk] at h
   have:=h2 0 e k c rfl h
   simpa using this
  ·rw[List.getElem?_append_right (by omega)] at h
   have:=flat_rep es (base+1) (fun e he=>h1 e (by simp[he])) (fun i e j c a b=>by
    have:=h2 (i+1) e j c (by simpa using a) b
    have e1:base+1+i=base+(i+1):=by omega
    rw[e1];exact this) _ c h
   have e2:(base+1)*sz+(k-e.cells.length)=base*sz+k:=by rw[he] at hk⊢;rw[Nat.add_mul];omega
   rw[e2] at this
   exact this
theorem flat_len{sz:Nat}:∀(es:List PD),(∀e∈es,e.cells.length=sz)→(es.flatMap PD.cells).length=es.length*sz
 |[],_=>by simp
 |e::es,h=>by
  rw[List.flatMap_cons,List.length_append,flat_len es (fun e he=>h e (by simp[he])),h e (by simp),List.length_cons,Nat.add_mul]
  omega
theorem RepE.flat{m:Mem}{sz:Nat}{cs:Array Value}{es:List PD}(r:RepE m sz cs es){tail:Array Value}(γ:Gh)(hm:γ.mem=m):RepB γ (cs++tail) ((es.flatMap PD.cells).map .p)∧∀c∈(es.flatMap PD.cells).map D.p,c.one=true:=by
 subst hm
 obtain⟨r1,r2,r3⟩:=r
 have hl:=flat_len es (fun e he=>(r2 e he).1)
 refine⟨⟨by simp[hl,r1],fun k d hd=>?_⟩,fun c hc=>?_⟩
 ·simp only[List.getElem?_map,Option.map_eq_some_iff] at hd
  obtain⟨c,hc,rfl⟩:=hd
  have:=flat_rep (cs:=cs) es 0 (fun e he=>(r2 e he).1) (fun i e j c a b=>by rw[Nat.zero_add];exact r3 i e j c a b) k c hc
  rw[Nat.zero_mul,Nat.zero_add] at this
  have hk:k<cs.size:=by rw[r1,←hl];exact(List.getElem?_eq_some_iff.1 hc).1
  have ee:(cs++tail).getD k undef=cs.getD k undef:=by simp[Array.getD_eq_getD_getElem?,Array.getElem?_append,hk]
  rw[ee]
  exact .p _ _ this
 ·obtain⟨x,hx,rfl⟩:=List.mem_map.1 hc
  obtain⟨e,he,hx⟩:=List.mem_flatMap.1 hx
  exact(r2 e he).2 x hx
theorem done_appendm(I:Inv G γ H w)(E:EnvRep γ env a.tmps){t u e:TypeId}{s x:Operand}{s' x':Opd}{i:TypeInfo}{z:Value}{du:TypeDesc}(ho:o.op= .call {callee:=.builtin .append,args:=#[s,x],argTypes:=#[t,u]})
    (ht:P.underlying t=some (.slice e)) (hu:P.underlying u=some du) (hdu:(∃e',du= .slice e')∨du= .string) (hi:P.info? e=some i) (hz:i.zero=some z) (_:z.cells.size=i.size) (hsp:0<i.size)
    (hs:opdOf s=some s') (hx:opdOf x=some x') {d:D} {H':Hp} (he:evK G env H (.appendm e i.size i.bytes s' x')=some (d,H')):Done P G γ H w a o d H':=by
 have hsr:=opdOf_rep E hs
 have hxr:=opdOf_rep E hx
 simp only[evK] at he
 split at he
 ·rename_i xs hxs
  obtain⟨⟨news,S⟩,_⟩:=srcH_of (P:=P) I hsp hxr hxs
  have fin:∀v' w',(Builtin.append_ #[t,u] o.type #[a.eval s,a.eval x]).run P w= .ok v' w'→(execOp a.eval o).run P w= .ok (.value v') w':=by
   intro v' w' h
   simp[execOp,ho,resolve,invoke,builtin,h]
  have core:∀(es:List PD) (base:Option Addr) (cap:Nat),a.eval s= .slice base es.length cap→es.length≤cap→cap≤es.length→RepP γ.mem (.slice base es.length cap) (.slice i.size es)→
      (if xs.isEmpty then some (s'.ev env,H) else if roomy (es.length+xs.length) i.bytes then some (D.msl H.bx.length 0 (es.length+xs.length) none i.size,{H with bx:=H.bx++[((es++xs).flatMap PD.cells).map .p]}) else none)=some (d,H')→Done P G γ H w a o d H':=by
   intro es base cap hv h1 h2 hrep he
   split at he
   ·rename_i h0
    cases he
    have h0:xs=[]:=by simpa using h0
    have hrun:=run_append_zero (ty:=o.type) ht hu hdu hi S h0 base es.length cap h1
    exact .same I (fin _ _ (by rw[hv];exact hrun)) (hv▸hsr)
   ·rename_i h0
    have h0:xs≠[]:=by simpa using h0
    have hpos:0<xs.length:=List.length_pos_iff.2 h0
    split at he
    ·rename_i hroom
     cases he
     have hroom':es.length+xs.length≤140737488355328∧(es.length+xs.length)*i.bytes≤140737488355328:=by simpa[roomy] using hroom
     obtain⟨olds,So⟩:=elems_src (P:=P) I hsp hrep
     have hrun:=run_append_new (ty:=o.type) ht hu hdu hi hz S base es.length cap olds (fun w' hw'=>So.cells w' hw') (by omega) (by omega) hroom'.2
     obtain⟨q1,q2⟩:=RepE.flat (So.rep.append S.rep) (tail:=Builtin.zeroCells z.cells (grownCap w (es.length+xs.length) cap e-(es.length+xs.length))) γ rfl
     obtain⟨γ',a1,a2,a3,a4⟩:=I.drew.newBox e q1 q2
     have hge:=grownCap_ge w (es.length+xs.length) cap e
     exact⟨_,_,γ',.inl (fin _ _ (by rw[hv];exact hrun)),a1,(Frame.drew γ H w).trans rfl a3,a4,.msl _ _ _ _ _ _ _ a2 hge (fun k hk=>by cases hk)⟩
    ·cases he
  unfold appendmD at he
  split at he
  ·rename_i es hes
   split at hes
   ·rename_i hn
    cases hes
    rw[hn] at hsr
    have hv:=hsr.p_inv.nils_inv
    refine core [] none 0 hv (Nat.le_refl _) (Nat.le_refl _) (.sl0 _ _ _) ?_
    rw[hn] at he⊢;simpa using he
   ·rename_i sz' hn
    split at hes
    ·rename_i hsz
     subst hsz
     cases hes
     have hsr':=hsr
     rw[hn] at hsr'
     generalize hev:a.eval s=v at hsr'
     cases hsr' with
     |esl ad _=>
      refine core [] ad 0 hev (Nat.le_refl _) (Nat.le_refl _) (.sl0 _ _ _) ?_
      simpa using he
    ·cases hes
   ·rename_i e' sz' es' hn
    split at hes
    ·rename_i hsz
     subst hsz
     cases hes
     have hsr':=hsr
     rw[hn] at hsr'
     generalize hev:a.eval s=v at hsr'
     cases hsr' with
     |fsl b n _ _ _ hb hty hlen hrep=>
      subst hlen
      exact core es _ _ hev (Nat.le_refl _) (Nat.le_refl _) hrep he
    ·cases hes
   ·cases hes
  ·cases he
 ·cases he
end Go.Vs
namespace Go.Vs
open Go.MapKept
variable {P : Program} {G : Nat → Option (List PD)} {γ : Gh} {H : Hp} {w : World} {env : Env} {a : Act} {o : Oper}
theorem Inv.newMap(I:Inv G γ H w)(kd:Nat):
    ∃γ',γ.le γ'∧γ'.boxes[H.bx.length]? =some w.heap.size∧Frame γ H w γ' {H with bx:=H.bx++[[.mapc kd [] []]]} (w.alloc (.map #[] 0))∧Inv G γ' {H with bx:=H.bx++[[.mapc kd [] []]]} (w.alloc (.map #[] 0)):=by
 let cs:List D:=[.mapc kd [] []]
 let γ':Gh:={γ with boxes:=γ.boxes++[w.heap.size]}
 have hle:γ.le γ':=⟨rfl,fun c x h=>h,fun _ _ _ h=>h,fun i b h=>by
  have hi:i<γ.boxes.length:=(List.getElem?_eq_some_iff.1 h).1
  show(γ.boxes++[w.heap.size])[i]? =some b
  rw[List.getElem?_append_left hi];exact h,fun t r h=>⟨r,h,rfl,rfl,fun _ _ h=>h⟩⟩
 have hfree:∀t b,Free γ' {H with bx:=H.bx++[cs]} t b→Free γ H t b:=fun t b h=>Free.congr (fun _ _ h=>h) (fun _ _ h=>h) h
 have hbx:γ'.boxes[H.bx.length]? =some w.heap.size:=by
  show(γ.boxes++[w.heap.size])[H.bx.length]? =_
  rw[←I.lenB];simp
 refine⟨γ',hle,hbx,?_,?_⟩
 ·refine⟨rfl,rfl,rfl,by simp,fun b hb _=>?_,fun b o _ _=>rfl,fun b hb=>?_,fun t b hb=>.inl (hfree t b hb)⟩
  ·rw[heap_alloc,if_neg (by omega)];exact⟨fun _=>rfl,.refl _ _⟩
  ·have hb:b∈γ.boxes++[w.heap.size]:=hb
   rcases List.mem_append.1 hb with h |h
   ·exact .inl h
   ·exact .inr (by simp at h;omega)
 ·constructor
  ·have:=I.size
   show γ.base≤(w.alloc (.map #[] 0)).heap.size
   simp;omega
  ·intro b T' n hb
   obtain⟨us,fr,h2,h3⟩:=I.tys b T' n hb
   have:=(Array.getElem?_eq_some_iff.1 h2).1
   exact⟨us,fr,by rw[heap_alloc,if_neg (by omega)];exact h2,h3⟩
  ·exact I.rowb
  ·intro b o v h
   have hlt:=I.lt_of_mem h
   rw[cell_eq (w:=w) (by rw[heap_alloc,if_neg (by omega)])]
   exact I.mem b o v h
  ·exact I.globs
  ·show(γ.boxes++[w.heap.size]).length=(H.bx++[cs]).length
   simp[I.lenB]
  ·show(γ.boxes++[w.heap.size]).Nodup
   rw[List.nodup_append]
   refine⟨I.nodup,by simp,fun a ha b hb=>?_⟩
   simp at hb
   have:=I.lt_of_box ha
   omega
  ·intro i b cs' hb hc
   have hb:(γ.boxes++[w.heap.size])[i]? =some b:=hb
   have hc:(H.bx++[cs])[i]? =some cs':=hc
   by_cases hi:i<γ.boxes.length
   ·rw[List.getElem?_append_left hi] at hb
    rw[List.getElem?_append_left (by rw[←I.lenB];exact hi)] at hc
    obtain⟨vs',T',fr',a1,a2,a3⟩:=I.box i b cs' hb hc
    have:=I.lt_of_box (List.mem_of_getElem? hb)
    exact⟨vs',T',fr',by rw[heap_alloc,if_neg (by omega)];exact a1,a2.mono hle,a3⟩
   ·have hi':i=γ.boxes.length:=by
     have:=(List.getElem?_eq_some_iff.1 hb).1
     simp at this;omega
    subst hi'
    rw[List.getElem?_append_right (Nat.le_refl _)] at hb
    rw[I.lenB,List.getElem?_append_right (Nat.le_refl _)] at hc
    simp at hb hc
    subst hb;subst hc
    refine⟨#[.func (.func 0) #[] #[]],0,(0,0),by rw[heap_alloc,if_pos rfl];simp[viewC,cs,isMapC],⟨by simp[cs],fun i d hd=>?_⟩,fun hm=>by simp[cs,isMapC] at hm,fun _ k _ _ hk=>by omega⟩
    match i with
    | 0=>
     simp only[cs,List.getElem?_cons_zero,Option.some.injEq] at hd
     subst hd
     exact .mapc #[] #[] kd [] [] id rfl rfl rfl (fun j h=>by simp at h) (fun j j' h=>by simp at h) (fun j h=>by simp at h) (fun i x h=>by simp at h) (fun i j x y h=>by simp at h) (fun i x h=>by simp at h)
    |i+1=>simp[cs] at hd
  ·intro b o hb
   have hb:b∈γ.boxes++[w.heap.size]:=hb
   rcases List.mem_append.1 hb with h |h
   ·exact I.boxmem b o h
   ·simp at h
    subst h
    cases hm:γ.mem w.heap.size o with
    |none=>rfl
    |some v=>have:=I.lt_of_mem hm;omega
  ·exact I.lenT
  ·intro t row f h1 h2
   obtain⟨r,a1,a2⟩:=I.row t row f h1 h2
   refine⟨r,a1,a2.keep hle.tys (fun b cap hr hlt=>?_) (fun b cap hr hlt o=>rfl) (fun b cap hr hlt hb hb'=>?_)⟩
   ·have:=I.lt_of_free ⟨row,f,cap,h1,h2,hr▸a1,hlt⟩
    rw[heap_alloc,if_neg (by omega)]
   ·have hb':b∈γ.boxes++[w.heap.size]:=hb'
    have:=I.lt_of_free ⟨row,f,cap,h1,h2,hr▸a1,hlt⟩
    rcases List.mem_append.1 hb' with h |h
    ·exact hb h
    ·simp at h;omega
  ·exact I.rowmax
  ·intro t t' b h h'
   exact I.free t t' b (hfree t b h) (hfree t' b h')
structure MapRep (γ:Gh) (es:Array MapEntry) (kd:Nat) (ks:List PD) (vs:List D) (s:Nat→Nat):Prop where
 n:es.size=ks.length
 d:vs.length=ks.length
 rng:∀j,j<ks.length→s j<ks.length
 inj:∀j j',j<ks.length→j'<ks.length→s j=s j'→j=j'
 sur:∀m,m<ks.length→∃j,j<ks.length∧s j=m
 key:∀(j:Nat) e x,es[s j]? =some e→ks[j]? =some x→RepP γ.mem e.key x∧keyKind x=kd
 one:∀(j j':Nat) x y,ks[j]? =some x→ks[j']? =some y→keyEq x y=true→j=j'
 val:∀(j:Nat) e d,es[s j]? =some e→vs[j]? =some d→RepD γ e.val d
theorem MapRep.rep{γ:Gh}{es:Array MapEntry}{kd:Nat}{ks:List PD}{vs:List D}{s:Nat→Nat}(M:MapRep γ es kd ks vs s):RepD γ (.func (.func 0) (es.map (·.key)) (es.map (·.val))) (.mapc kd ks vs):=by
 refine .mapc _ _ kd ks vs s (by simp[M.n]) (by simp[M.n]) M.d M.rng M.inj M.sur (fun j x hx=>?_) M.one (fun j d hd=>?_)
 ·have hj:j<ks.length:=(List.getElem?_eq_some_iff.1 hx).1
  have hs:s j<es.size:=by rw[M.n];exact M.rng j hj
  have:=M.key j es[s j] x (by simp[hs]) hx
  simpa[Array.getD_eq_getD_getElem?,hs] using this
 ·have hj:j<ks.length:=by rw[←M.d];exact(List.getElem?_eq_some_iff.1 hd).1
  have hs:s j<es.size:=by rw[M.n];exact M.rng j hj
  have:=M.val j es[s j] d (by simp[hs]) hd
  simpa[Array.getD_eq_getD_getElem?,hs] using this
theorem Inv.mapBlock(I:Inv G γ H w){i b kd:Nat}{ks:List PD}{vs:List D}(hb:γ.boxes[i]? =some b)(hc:H.bx[i]? =some [.mapc kd ks vs]):
    ∃(es:Array MapEntry) (ck:Nat) (s:Nat→Nat),w.heap[b]? =some (.map es ck)∧MapRep γ es kd ks vs s:=by
 obtain⟨us,T,fr,q1,q2,_⟩:=I.box i b _ hb hc
 simp only[viewC,isMapC,if_true] at q1
 split at q1
 ·rename_i es ck hmap
  cases q1
  have:=q2.2 0 _ rfl
  simp only[Array.getD_eq_getD_getElem?] at this
  have this:RepD γ (.func (.func 0) (es.map (·.key)) (es.map (·.val))) (.mapc kd ks vs):=by simpa using this
  cases this with
  |mapc _ _ _ _ _ s hl kl dl hs hj hg hr hd kr=>
   refine⟨es,ck,s,hmap,by simpa using hl,dl,hs,hj,hg,fun j e x he hx=>?_,hd,fun j e d he hd=>?_⟩
   ·have:=hr j x hx
    simpa[Array.getD_eq_getD_getElem?,he] using this
   ·have:=kr j d hd
    simpa[Array.getD_eq_getD_getElem?,he] using this
 ·cases q1
theorem Inv.setMap(I:Inv G γ H w){i b kd kd':Nat}{ks ks':List PD}{vs vs':List D}(hb:γ.boxes[i]? =some b)(hc:H.bx[i]? =some [.mapc kd ks vs]){es es':Array MapEntry}{ck ck':Nat}(hw:w.heap[b]? =some (.map es ck))
    {s':Nat→Nat} (M:MapRep γ es' kd' ks' vs' s'):
    Frame γ H w γ {H with bx:=H.bx.set i [.mapc kd' ks' vs']} {w with heap:=w.heap.setIfInBounds b (.map es' ck')}∧
     Inv G γ {H with bx:=H.bx.set i [.mapc kd' ks' vs']} {w with heap:=w.heap.setIfInBounds b (.map es' ck')}:=by
 have hmem:b∈γ.boxes:=List.mem_of_getElem? hb
 have hi:i<H.bx.length:=(List.getElem?_eq_some_iff.1 hc).1
 have hblt:b<w.heap.size:=(Array.getElem?_eq_some_iff.1 hw).1
 have hfree:∀t c,Free γ {H with bx:=H.bx.set i [.mapc kd' ks' vs']} t c→Free γ H t c:=fun t c h=>Free.congr (fun _ _ h=>h) (fun _ _ h=>h) h
 have hoth:∀c,c≠b→(w.heap.setIfInBounds b (.map es' ck'))[c]? =w.heap[c]?:=fun c hne=>by simp[Ne.symm hne]
 refine⟨⟨rfl,rfl,rfl,by simp,fun c _ ho=>by
  show(_→(w.heap.setIfInBounds b (.map es' ck'))[c]? =_)∧Sim _ _ ((w.heap.setIfInBounds b (.map es' ck'))[c]?)
  rw[hoth c (fun e=>ho (.inl (e▸hmem)))];exact⟨fun _=>rfl,.refl _ _⟩,fun _ _ _ _=>rfl,fun c hc'=>.inl hc',fun t c h=>.inl (hfree t c h)⟩,?_⟩
 constructor
 ·have:=I.size
  simpa using this
 ·intro c T' n hc'
  obtain⟨us',fr',h2,h3⟩:=I.tys c T' n hc'
  have hcb:c≠b:=fun e=>by subst e;rw[hw] at h2;cases h2
  exact⟨us',fr',(hoth c hcb).trans h2,h3⟩
 ·exact I.rowb
 ·intro c o v h
  have hne:c≠b:=fun e=>by subst e;rw[I.boxmem c o hmem] at h;cases h
  rw[cell_eq (w:=w) (hoth c hne)]
  exact I.mem c o v h
 ·exact I.globs
 ·simp[I.lenB]
 ·exact I.nodup
 ·intro j c cs' hj hcs
  by_cases hij:i=j
  ·subst hij
   rw[hb] at hj
   cases hj
   have hcs:(H.bx.set i [.mapc kd' ks' vs'])[i]? =some cs':=hcs
   rw[List.getElem?_set_self hi] at hcs
   cases hcs
   have hnew:(w.heap.setIfInBounds b (.map es' ck'))[b]? =some (.map es' ck'):=by simp[hblt]
   refine⟨#[.func (.func 0) (es'.map (·.key)) (es'.map (·.val))],0,(0,0),?_,⟨by simp,fun k d hd=>?_⟩,fun hm=>by simp[isMapC] at hm,fun _ k _ _ hk=>by omega⟩
   ·show viewC _ ((w.heap.setIfInBounds b (.map es' ck'))[b]?)=_
    rw[hnew];rfl
   ·match k with
    | 0=>
     simp only[List.getElem?_cons_zero,Option.some.injEq] at hd
     subst hd
     exact M.rep
    |k+1=>simp at hd
  ·have hcs:(H.bx.set i [.mapc kd' ks' vs'])[j]? =some cs':=hcs
   rw[List.getElem?_set_ne hij] at hcs
   obtain⟨us',T',fr',a1,a2,a3⟩:=I.box j c cs' hj hcs
   have hne:c≠b:=fun e=>by
    subst e
    have h1:=(List.getElem?_eq_some_iff.1 hb).1
    exact hij ((List.getElem?_inj h1 I.nodup).1 (hb.trans hj.symm))
   refine⟨us',T',fr',?_,a2,a3⟩
   show viewC _ ((w.heap.setIfInBounds b (.map es' ck'))[c]?)=_
   rw[hoth c hne];exact a1
 ·exact I.boxmem
 ·exact I.lenT
 ·intro t row f h1 h2
  obtain⟨r,a1,a2⟩:=I.row t row f h1 h2
  refine⟨r,a1,?_⟩
  refine a2.keep (fun _ _ h=>h) (fun c cap hr hlt=>?_) (fun _ _ _ _ _=>rfl) (fun c cap hr hlt h=>h)
  have hne:c≠b:=fun e=>by
   subst e
   subst hr
   obtain⟨cur,_,_,_,_,_,_,hnb⟩:=a2.2 hlt
   exact hnb hmem
  exact hoth c hne
 ·exact I.rowmax
 ·intro t t' c h h'
  exact I.free t t' c (hfree t c h) (hfree t' c h')
theorem kindOf_D{t:TypeId}{kd:Nat}(h:kindOf P t=some kd):∃d,P.underlying t=some d∧kindD d=some kd:=Option.bind_eq_some_iff.1 h
theorem kindI_inj{a b:IntKind}(h:kindI a=kindI b):a=b:=by cases a<;>cases b<;>first |rfl |cases h
theorem kindI_ge(a:IntKind):10≤kindI a:=by cases a<;>decide
theorem key_is{m:Mem}{d:TypeDesc}{kd:Nat}(hd:kindD d=some kd){u:Value}{x:PD}(hu:RepP m u x)(hx:keyKind x=kd)(h1:kd≠1):IsKey d u:=by
 have g:=fun a=>kindI_ge a
 subst hx
 cases hu<;>cases d<;>simp only[kindD,Option.some.injEq,reduceCtorEq] at hd<;>simp only[keyKind] at hd h1<;>
  first
   |trivial
   |exact kindI_inj hd.symm
   |(exfalso;have q:=g ‹_›;omega)
   |(exact absurd rfl h1)
theorem keyEq_iff{m:Mem}{u v:Value}{x y:PD}(hu:RepP m u x)(hv:RepP m v y)(hk:keyKind x=keyKind y)(h1:keyKind x≠1):keyEq x y=true↔u=v:=by
 have g:=fun a=>kindI_ge a
 cases hu<;>first |(exfalso;exact h1 rfl) |skip
 all_goals cases hv<;>first |(exfalso;simp only[keyKind] at hk;omega) |(exfalso;simp only[keyKind] at hk;have q:=g ‹_›;omega) |skip
 ·simp[keyEq]
 ·have:=kindI_inj hk
  subst this
  simp[keyEq]
 ·simp[keyEq]
theorem findK_some{k:PD}:∀{ks:List PD} {j:Nat},findK k ks=some j→∃x,ks[j]? =some x∧keyEq k x=true
 |a::r,j,h=>by
  simp only[findK] at h
  split at h
  ·rename_i he;cases h;exact⟨a,rfl,he⟩
  ·obtain⟨i,hi,rfl⟩:=Option.map_eq_some_iff.1 h
   obtain⟨x,h1,h2⟩:=findK_some hi
   exact⟨x,by simpa using h1,h2⟩
theorem findK_none{k:PD}:∀{ks:List PD},findK k ks=none→∀(j:Nat) x,ks[j]? =some x→keyEq k x=false
 |[],_,j,x,hx=>by simp at hx
 |a::r,h,j,x,hx=>by
  simp only[findK] at h
  split at h
  ·cases h
  ·rename_i he
   have h:=Option.map_eq_none_iff.1 h
   match j with
   | 0=>simp only[List.getElem?_cons_zero,Option.some.injEq] at hx;subst hx;simpa using he
   |j+1=>exact findK_none h j x (by simpa using hx)
theorem posK_le(c:Nat):∀ks:List PD,posK c ks≤ks.length
 |[]=>Nat.le_refl _
 |a::r=>by simp only[posK];split<;>have:=posK_le c r<;>simp<;>omega
theorem insAt_len{α:Type}(x:α):∀(p:Nat) (l:List α),(insAt p x l).length=l.length+1
 | 0,l=>rfl
 |p+1,[]=>rfl
 |p+1,a::l=>by simp[insAt,insAt_len x p l]
theorem insAt_get{α:Type}(x:α):∀(p:Nat) (l:List α),p≤l.length→∀i,(insAt p x l)[i]? =if i<p then l[i]? else if i=p then some x else l[i-1]?
 | 0,l,_,i=>by
  cases i with
  |zero=>simp[insAt]
  |succ i=>simp[insAt]
 |p+1,[],h,i=>by simp at h
 |p+1,a::l,h,i=>by
  cases i with
  |zero=>simp[insAt]
  |succ i=>
   have:=insAt_get x p l (by simpa using h) i
   simp only[insAt,List.getElem?_cons_succ,this]
   by_cases h1:i<p
   ·rw[if_pos h1,if_pos (show i+1<p+1 by omega)]
   ·rw[if_neg h1,if_neg (show ¬i+1<p+1 by omega)]
    by_cases h2:i=p
    ·rw[if_pos h2,if_pos (show i+1=p+1 by omega)]
    ·rw[if_neg h2,if_neg (show ¬i+1=p+1 by omega)]
     have e:i+1-1=(i-1)+1:=by omega
     rw[e,List.getElem?_cons_succ]
section
variable {es : Array MapEntry} {kd : Nat} {ks : List PD} {vs : List D} {s : Nat → Nat} (M : MapRep γ es kd ks vs s) {dd : TypeDesc} (hdd : kindD dd = some kd) (h1 : kd ≠ 1) {kv : Value} {k : PD} (hk : RepP γ.mem kv k) (hkk : keyKind k = kd)
include M hdd h1 hk hkk
theorem MapRep.keys:∀x∈es.toList,IsKey dd x.key:=by
 have _:=hk
 have _:=hkk
 intro x hx
 obtain⟨m,hm⟩:=List.getElem?_of_mem hx
 have hml:m<ks.length:=by rw[←M.n];simpa using (List.getElem?_eq_some_iff.1 hm).1
 obtain⟨j,hj,rfl⟩:=M.sur m hml
 obtain⟨q1,q2⟩:=M.key j x _ (by simpa using hm) (List.getElem?_eq_getElem hj)
 exact key_is hdd q1 q2 h1
theorem MapRep.found{j:Nat}(hf:findK k ks=some j):∃e,es[s j]? =some e∧e.key=kv∧Instr.findNow dd kv es.toList 0=some (some (s j,e.val)):=by
 obtain⟨x,hx,he⟩:=findK_some hf
 have hj:j<ks.length:=(List.getElem?_eq_some_iff.1 hx).1
 have hsj:s j<es.size:=by rw[M.n];exact M.rng j hj
 have heq:es[s j]? =some es[s j]:=by simp[hsj]
 obtain⟨q1,q2⟩:=M.key j _ x heq hx
 have hkey:es[s j].key=kv:=((keyEq_iff hk q1 (hkk.trans q2.symm) (by rw[hkk];exact h1)).1 he).symm
 refine⟨es[s j],heq,hkey,?_⟩
 rcases findNow_spec (key_is hdd hk hkk h1) es.toList 0 (M.keys hdd h1 hk hkk) with⟨_,h2⟩ |⟨m,e,h2,h3,h4⟩
 ·exact absurd hkey (h2 _ (by simp))
 ·have hm:m<ks.length:=by rw[←M.n];simpa using (List.getElem?_eq_some_iff.1 h3).1
  obtain⟨j',hj',rfl⟩:=M.sur m hm
  obtain⟨r1,r2⟩:=M.key j' e _ (by simpa using h3) (List.getElem?_eq_getElem hj')
  have hq:keyEq x ks[j']=true:=(keyEq_iff q1 r1 (q2.trans r2.symm) (by rw[q2];exact h1)).2 (hkey.trans h4.symm)
  have:=M.one j j' x _ hx (List.getElem?_eq_getElem hj') hq
  subst this
  have h3:es[s j]? =some e:=by simpa using h3
  rw[heq] at h3
  cases h3
  simpa using h2
theorem MapRep.missed(hf:findK k ks=none):Instr.findNow dd kv es.toList 0=some none:=by
 rcases findNow_spec (key_is hdd hk hkk h1) es.toList 0 (M.keys hdd h1 hk hkk) with⟨h2,_⟩ |⟨m,e,h2,h3,h4⟩
 ·exact h2
 ·exfalso
  have hm:m<ks.length:=by rw[←M.n];simpa using (List.getElem?_eq_some_iff.1 h3).1
  obtain⟨j',hj',rfl⟩:=M.sur m hm
  obtain⟨r1,r2⟩:=M.key j' e _ (by simpa using h3) (List.getElem?_eq_getElem hj')
  have hq:keyEq k ks[j']=true:=(keyEq_iff hk r1 (hkk.trans r2.symm) (by rw[hkk];exact h1)).2 h4.symm
  rw[findK_none hf j' _ (List.getElem?_eq_getElem hj')] at hq
  cases hq
theorem MapRep.ins(hf:findK k ks=none){v:Value}{d:D}(hv:RepD γ v d)(ck:Nat){p:Nat}(hp:p≤ks.length):
    MapRep γ (es.push {key:=kv,val:=v,born:=ck}) kd (insAt p k ks) (insAt p d vs) (fun j=>if j<p then s j else if j=p then ks.length else s (j-1)):=by
 have _:=hdd
 have hget:∀m e,(es.push {key:=kv,val:=v,born:=ck})[m]? =some e→if m=ks.length then e.key=kv∧e.val=v else es[m]? =some e:=by
  intro m e hm
  rw[Array.getElem?_push,M.n] at hm
  split at hm
  ·rename_i h;rw[if_pos h];cases hm;exact⟨rfl,rfl⟩
  ·rename_i h;rw[if_neg h];exact hm
 refine⟨by simp[insAt_len,M.n],by rw[insAt_len,insAt_len,M.d],fun j hj=>?_,fun j j' hj hj' h=>?_,fun m hm=>?_,fun j e x he hx=>?_,fun j j' x y hx hy h=>?_,fun j e y he hy=>?_⟩
 ·rw[insAt_len] at hj⊢
  try dsimp only
  split
  ·have:=M.rng j (by omega);omega
  ·split
   ·omega
   ·have:=M.rng (j-1) (by omega);omega
 ·rw[insAt_len] at hj hj'
  try dsimp only at h
  split at h
  ·rename_i a1
   have b1:=M.rng j (by omega)
   split at h
   ·exact M.inj j j' (by omega) (by omega) h
   ·split at h
    ·omega
    ·have:=M.inj j (j'-1) (by omega) (by omega) h;omega
  ·split at h
   ·rename_i a1 a2
    split at h
    ·have:=M.rng j' (by omega);omega
    ·split at h
     ·omega
     ·have:=M.rng (j'-1) (by omega);omega
   ·rename_i a1 a2
    have b1:=M.rng (j-1) (by omega)
    split at h
    ·have:=M.inj (j-1) j' (by omega) (by omega) h;omega
    ·split at h
     ·omega
     ·have:=M.inj (j-1) (j'-1) (by omega) (by omega) h;omega
 ·rw[insAt_len] at hm⊢
  by_cases hmn:m=ks.length
  ·exact⟨p,by omega,by simp[hmn]⟩
  ·obtain⟨j,hj,rfl⟩:=M.sur m (by omega)
   by_cases hjp:j<p
   ·exact⟨j,by omega,by simp[hjp]⟩
   ·exact⟨j+1,by omega,by rw[if_neg (by omega),if_neg (by omega)];rfl⟩
 ·rw[insAt_get _ _ _ hp] at hx
  have he:=hget _ e he
  by_cases h2:j<p
  ·rw[if_pos h2] at hx
   simp only[h2,if_true] at he
   have:=M.rng j (by omega)
   rw[if_neg (by omega)] at he
   exact M.key j e x he hx
  ·rw[if_neg h2] at hx
   simp only[h2,if_false] at he
   by_cases h3:j=p
   ·rw[if_pos h3] at hx
    rw[if_pos h3,if_pos rfl] at he
    cases hx
    rw[he.1]
    exact⟨hk,hkk⟩
   ·rw[if_neg h3] at hx
    rw[if_neg h3] at he
    have hj:j-1<ks.length:=(List.getElem?_eq_some_iff.1 hx).1
    have:=M.rng (j-1) hj
    rw[if_neg (by omega)] at he
    exact M.key (j-1) e x he hx
 ·have hnew:∀(i:Nat) z,ks[i]? =some z→keyEq k z=false∧keyEq z k=false:=by
   intro i z hz
   have hi:i<ks.length:=(List.getElem?_eq_some_iff.1 hz).1
   have hsi:s i<es.size:=by rw[M.n];exact M.rng i hi
   obtain⟨q1,q2⟩:=M.key i es[s i] z (by simp[hsi]) hz
   have h1':=findK_none hf i z hz
   refine⟨h1',?_⟩
   cases hq:keyEq z k with
   |false=>rfl
   |true=>
    have:=(keyEq_iff q1 hk (q2.trans hkk.symm) (by rw[q2];exact h1)).1 hq
    rw[(keyEq_iff hk q1 (hkk.trans q2.symm) (by rw[hkk];exact h1)).2 this.symm] at h1'
    cases h1'
  rw[insAt_get _ _ _ hp] at hx hy
  by_cases a1:j<p
  ·rw[if_pos a1] at hx
   by_cases b1:j'<p
   ·rw[if_pos b1] at hy;exact M.one j j' x y hx hy h
   ·rw[if_neg b1] at hy
    by_cases b2:j'=p
    ·rw[if_pos b2] at hy;cases hy;rw[(hnew j x hx).2] at h;cases h
    ·rw[if_neg b2] at hy;have:=M.one j (j'-1) x y hx hy h;omega
  ·rw[if_neg a1] at hx
   by_cases a2:j=p
   ·rw[if_pos a2] at hx;cases hx
    by_cases b1:j'<p
    ·rw[if_pos b1] at hy;rw[(hnew j' y hy).1] at h;cases h
    ·rw[if_neg b1] at hy
     by_cases b2:j'=p
     ·omega
     ·rw[if_neg b2] at hy;rw[(hnew _ y hy).1] at h;cases h
   ·rw[if_neg a2] at hx
    by_cases b1:j'<p
    ·rw[if_pos b1] at hy;have:=M.one (j-1) j' x y hx hy h;omega
    ·rw[if_neg b1] at hy
     by_cases b2:j'=p
     ·rw[if_pos b2] at hy;cases hy;rw[(hnew _ x hx).2] at h;cases h
     ·rw[if_neg b2] at hy;have:=M.one (j-1) (j'-1) x y hx hy h;omega
 ·rw[insAt_get _ _ _ (by rw[M.d];exact hp)] at hy
  have he:=hget _ e he
  by_cases h2:j<p
  ·rw[if_pos h2] at hy
   simp only[h2,if_true] at he
   have:=M.rng j (by omega)
   rw[if_neg (by omega)] at he
   exact M.val j e y he hy
  ·rw[if_neg h2] at hy
   simp only[h2,if_false] at he
   by_cases h3:j=p
   ·rw[if_pos h3] at hy
    rw[if_pos h3,if_pos rfl] at he
    cases hy
    rw[he.2]
    exact hv
   ·rw[if_neg h3] at hy
    rw[if_neg h3] at he
    have hj:j-1<ks.length:=by rw[←M.d];exact(List.getElem?_eq_some_iff.1 hy).1
    have:=M.rng (j-1) hj
    rw[if_neg (by omega)] at he
    exact M.val (j-1) e y he hy
theorem MapRep.upd{j:Nat}(hf:findK k ks=some j){v:Value}{d:D}(hv:RepD γ v d):
    MapRep γ (es.modify (s j) fun e=>{e with key:=kv,val:=v}) kd ks (vs.set j d) s:=by
 obtain⟨e0,f1,f2,_⟩:=M.found hdd h1 hk hkk hf
 obtain⟨x0,hx0,_⟩:=findK_some hf
 have hjl:j<ks.length:=(List.getElem?_eq_some_iff.1 hx0).1
 have hget:∀m e,(es.modify (s j) fun e=>{e with key:=kv,val:=v})[m]? =some e→if m=s j then e.key=kv∧e.val=v else es[m]? =some e:=by
  intro m e hm
  rw[Array.getElem?_modify] at hm
  by_cases hij:s j=m
  ·subst hij
   rw[if_pos rfl,f1] at hm
   simp at hm
   subst hm
   simp
  ·rw[if_neg hij] at hm
   rw[if_neg (fun e=>hij e.symm)];exact hm
 refine⟨by simp[M.n],by simp[M.d],M.rng,M.inj,M.sur,fun i e x he hx=>?_,M.one,fun i e y he hy=>?_⟩
 ·have hq:=hget _ e he
  have hi:i<ks.length:=(List.getElem?_eq_some_iff.1 hx).1
  split at hq
  ·rename_i hs
   have:=M.inj i j hi hjl hs
   subst this
   rw[hq.1]
   have:=M.key i e0 x f1 hx
   rw[f2] at this
   exact this
  ·exact M.key i e x hq hx
 ·have hq:=hget _ e he
  have hi:i<ks.length:=by rw[←M.d];simpa using (List.getElem?_eq_some_iff.1 hy).1
  split at hq
  ·rename_i hs
   have:=M.inj i j hi hjl hs
   subst this
   rw[List.getElem?_set_self (by rw[M.d];exact hi)] at hy
   cases hy
   rw[hq.2];exact hv
  ·rename_i hs
   have hne:j≠i:=fun e=>hs (by rw[e])
   rw[List.getElem?_set_ne hne] at hy
   exact M.val i e y hq hy
end
theorem done_mkmap(I:Inv G γ H w){t:TypeId}{kd:Nat}(ho:o.op= .makeMap t none){d:D}{H':Hp}(he:evK G env H (.mkmap kd)=some (d,H')):Done P G γ H w a o d H':=by
 simp only[evK] at he
 cases he
 obtain⟨γ',a1,a2,a3,a4⟩:=I.newMap kd
 exact⟨.map (some w.heap.size),_,γ',.inl (by simp[execOp,ho,Instr.makeMap]),a1,a3,a4,.mapr _ _ a2⟩
theorem done_mapget(I:Inv G γ H w)(E:EnvRep γ env a.tmps){t kt et:TypeId}{m k:Operand}{m' k':Opd}{ok:Bool}{kd:Nat}{z:PD}(ho:o.op= .lookup t m k ok)(ht:P.underlying t=some (.map kt et))(hg:kindOf P kt=some kd)(hz:zeroOf P et=some z)
    (hm:opdOf m=some m') (hk:opdOf k=some k') {d:D} {H':Hp} (he:evK G env H (.mapget kd z ok m' k')=some (d,H')):Done P G γ H w a o d H':=by
 have hmr:=opdOf_rep E hm
 have hkr:=opdOf_rep E hk
 simp only[evK] at he
 obtain⟨d0,hd0,hh⟩:=Option.map_eq_some_iff.1 he
 cases hh
 obtain⟨dd,hu,hdd⟩:=kindOf_D hg
 obtain⟨zv,hz1,hz2⟩:=run_zeroOf hz w
 have hzr:=ofV_rep γ.mem hz2
 have fin:∀(v:Value) (found:Bool) (dv:D),(Instr.lookup t (a.eval m) (a.eval k) ok).run P w= .ok (if ok then .tuple #[v,.bool found] else v) w→RepD γ v dv→Done P G γ H w a o (if ok then .tup [dv,.p (.bool found)] else dv) H:=by
  intro v found dv hrun hv
  refine .same I (v:=if ok then .tuple #[v,.bool found] else v) (by simp[execOp,ho,hrun]) ?_
  cases ok with
  |false=>exact hv
  |true=>
   refine .tup _ _ rfl fun i x hx=>?_
   match i with
   | 0=>simp only[List.getElem?_cons_zero,Option.some.injEq] at hx;subst hx;exact hv
   | 1=>simp only[List.getElem?_cons_succ,List.getElem?_cons_zero,Option.some.injEq] at hx;subst hx;exact .p _ _ (.bool _)
   |i+2=>simp at hx
 unfold mapgetD at hd0
 split at hd0
 ·rename_i kx hm0 hk0
  split at hd0
  ·rename_i hc
   cases hd0
   rw[hm0] at hmr
   rw[hk0] at hkr
   have hmv:a.eval m= .map none:=by
    generalize a.eval m=v at hmr
    cases hmr with
    |p _ _ h=>cases h;rfl
   have hik:=key_is hdd hkr.p_inv hc.1 hc.2
   have:=fin zv false (.p z) (by
    rw[hmv]
    simp[Instr.lookup,run_underlying ht,run_checkKey hu hik,Instr.findKey,run_underlying hu,Instr.findNow,hz1,Result.andThen]
    try (cases ok<;>simp)) (.p _ _ hzr)
   cases ok<;>exact this
  ·cases hd0
 ·rename_i i kx hm0 hk0
  rw[hm0] at hmr
  rw[hk0] at hkr
  split at hd0
  ·rename_i kd' ks vs hbx
   generalize hmv:a.eval m=v at hmr
   cases hmr with
   |mapr _ b hb=>
    obtain⟨es,ck,s,q1,M⟩:=I.mapBlock hb hbx
    split at hd0
    ·rename_i hc
     obtain⟨hc1,hkd,hc2⟩:=hc
     subst hkd
     have hik:=key_is hdd hkr.p_inv hc1 hc2
     split at hd0
     ·rename_i j hj
      obtain⟨e,f1,f2,f3⟩:=M.found hdd hc2 hkr.p_inv hc1 hj
      obtain⟨dv,hdv,rfl⟩:=Option.map_eq_some_iff.1 hd0
      refine fin e.val true dv ?_ (M.val j e dv f1 hdv)
      rw[hmv]
      simp[Instr.lookup,run_underlying ht,MapKept.run_getObj_map q1,run_checkKey hu hik,MapKept.run_findKey hu f3,Result.andThen]
      try (cases ok<;>simp)
     ·rename_i hj
      have f3:=M.missed hdd hc2 hkr.p_inv hc1 hj
      cases hd0
      have:=fin zv false (.p z) (by
       rw[hmv]
       simp[Instr.lookup,run_underlying ht,MapKept.run_getObj_map q1,run_checkKey hu hik,MapKept.run_findKey hu f3,hz1,Result.andThen]
       try (cases ok<;>simp)) (.p _ _ hzr)
      cases ok<;>exact this
    ·cases hd0
  ·cases hd0
 ·cases hd0
theorem done_mapins(I:Inv G γ H w)(E:EnvRep γ env a.tmps){t kt et:TypeId}{m k x:Operand}{m' k' x':Opd}{kd:Nat}(ho:o.op= .mapUpdate t m k x∨o.op= .insert t m k x)(ht:P.underlying t=some (.map kt et))(hg:kindOf P kt=some kd)
    (hm:opdOf m=some m') (hk:opdOf k=some k') (hx:opdOf x=some x') {d:D} {H':Hp} (he:mapinsD kd (m'.ev env) (k'.ev env) (x'.ev env) H=some (d,H')):Done P G γ H w a o d H':=by
 have hmr:=opdOf_rep E hm
 have hkr:=opdOf_rep E hk
 have hxr:=opdOf_rep E hx
 obtain⟨dd,hu,hdd⟩:=kindOf_D hg
 unfold mapinsD at he
 split at he
 ·rename_i i kx hm0 hk0
  rw[hm0] at hmr
  rw[hk0] at hkr
  split at he
  ·rename_i kd' ks vs hbx
   generalize hmv:a.eval m=v at hmr
   cases hmr with
   |mapr _ b hb=>
    obtain⟨es,ck,s,q1,M⟩:=I.mapBlock hb hbx
    split at he
    ·rename_i hc
     obtain⟨hc1,hkd,hc2,hc3,_⟩:=hc
     cases he
     subst hkd
     have hik:=key_is hdd hkr.p_inv hc1 hc2
     have f3:=M.missed hdd hc2 hkr.p_inv hc1 hc3
     have M':=M.ins hdd hc2 hkr.p_inv hc1 hc3 hxr ck (posK_le (keyCode kx) ks)
     obtain⟨F,J⟩:=I.setMap (ck':=ck+1) hb hbx q1 M'
     refine⟨undef,_,γ,.inr ⟨?_,rfl⟩,.refl γ,F,J,.undef⟩
     have hrun:(Instr.mapUpdate t (a.eval m) (a.eval k) (a.eval x)).run P w= .ok () {w with heap:=w.heap.setIfInBounds b (.map (es.push {key:=a.eval k,val:=a.eval x,born:=ck}) (ck+1))}:=by
      rw[hmv]
      simp[Instr.mapUpdate,run_underlying ht,MapKept.run_getObj_map q1,run_checkKey hu hik,MapKept.run_findKey hu f3,MapKept.run_setObj_map _ q1,Result.andThen]
     rcases ho with ho |ho<;>simp[execOp,ho,hrun,Result.andThen]
    ·cases he
  ·cases he
 ·cases he
theorem done_mapset(I:Inv G γ H w)(E:EnvRep γ env a.tmps){t kt et:TypeId}{m k x:Operand}{m' k' x':Opd}{kd:Nat}(ho:o.op= .mapUpdate t m k x)(ht:P.underlying t=some (.map kt et))(hg:kindOf P kt=some kd)
    (hm:opdOf m=some m') (hk:opdOf k=some k') (hx:opdOf x=some x') {d:D} {H':Hp} (he:evK G env H (.mapset kd m' k' x')=some (d,H')):Done P G γ H w a o d H':=by
 have hmr:=opdOf_rep E hm
 have hkr:=opdOf_rep E hk
 have hxr:=opdOf_rep E hx
 obtain⟨dd,hu,hdd⟩:=kindOf_D hg
 simp only[evK] at he
 unfold mapsetD at he
 split at he
 ·rename_i i kx hm0 hk0
  split at he
  ·rename_i kd' ks vs hbx
   split at he
   ·rename_i hc
    obtain⟨hc1,hkd,hc2⟩:=hc
    subst hkd
    split at he
    ·rename_i j hj
     cases he
     rw[hm0] at hmr
     rw[hk0] at hkr
     generalize hmv:a.eval m=v at hmr
     cases hmr with
     |mapr _ b hb=>
      obtain⟨es,ck,s,q1,M⟩:=I.mapBlock hb hbx
      have hik:=key_is hdd hkr.p_inv hc1 hc2
      obtain⟨e0,f1,f2,f3⟩:=M.found hdd hc2 hkr.p_inv hc1 hj
      have M':=M.upd hdd hc2 hkr.p_inv hc1 hj hxr
      obtain⟨F,J⟩:=I.setMap (ck':=ck) hb hbx q1 M'
      refine⟨undef,_,γ,.inr ⟨?_,rfl⟩,.refl γ,F,J,.undef⟩
      have hrun:(Instr.mapUpdate t (a.eval m) (a.eval k) (a.eval x)).run P w= .ok () {w with heap:=w.heap.setIfInBounds b (.map (es.modify (s j) fun e=>{e with key:=a.eval k,val:=a.eval x}) ck)}:=by
       rw[hmv]
       simp[Instr.mapUpdate,run_underlying ht,MapKept.run_getObj_map q1,run_checkKey hu hik,MapKept.run_findKey hu f3,f1,f2,MapKept.run_keyThatStays hik,MapKept.run_setObj_map _ q1,Result.andThen]
      simp[execOp,ho,hrun,Result.andThen]
    ·exact done_mapins I E (.inl ho) ht hg hm hk hx he
   ·cases he
  ·cases he
 ·cases he
end Go.Vs
namespace Go.Vs
variable {P : Program} {G : Nat → Option (List PD)} {γ : Gh} {H : Hp} {w : World} {env : Env} {a : Act} {o : Oper}
theorem done_tassert(I:Inv G γ H w)(E:EnvRep γ env a.tmps){t xt:TypeId}{x:Operand}{y:Opd}{ok:Bool}{z:PD}{u:TypeDesc}(ho:o.op= .typeAssert x xt t ok)(ht:P.underlying t=some u)(hni:∀ms,u≠.interface ms)
    (hz:zeroOf P t=some z) (hx:opdOf x=some y) {d:D} {H':Hp} (he:evK G env H (.tassert t z ok y)=some (d,H')):Done P G γ H w a o d H':=by
 have hr:=opdOf_rep E hx
 simp only[evK] at he
 obtain⟨d0,hd0,hh⟩:=Option.map_eq_some_iff.1 he
 cases hh
 obtain⟨zv,hz1,hz2⟩:=run_zeroOf hz w
 have hzr:=ofV_rep γ.mem hz2
 have holds:∀(v:Value) (dv:D),a.eval x= .iface t v→RepD γ v dv→Done P G γ H w a o (if ok then .tup [dv,.p (.bool true)] else dv) H:=by
  intro v dv hv hrep
  refine .same I (v:=if ok then .tuple #[v,.bool true] else v) ?_ ?_
  ·have :(Instr.typeAssert (a.eval x) xt t ok).run P w= .ok (if ok then .tuple #[v,.bool true] else v) w:=by
    rw[hv]
    unfold Instr.typeAssert
    simp only[Sem.run_bind,run_underlying ht,Result.andThen_ok]
    cases u<;>first |exact absurd rfl (hni _) |(cases ok<;>simp)
   simp[execOp,ho,this]
  ·cases ok with
   |false=>exact hrep
   |true=>
    refine .tup _ _ rfl fun i x hx=>?_
    match i with
    | 0=>simp only[List.getElem?_cons_zero,Option.some.injEq] at hx;subst hx;exact hrep
    | 1=>simp only[List.getElem?_cons_succ,List.getElem?_cons_zero,Option.some.injEq] at hx;subst hx;exact .p _ _ (.bool _)
    |i+2=>simp at hx
 have fails:ok=true→(a.eval x= .nilIface∨∃t' v,a.eval x= .iface t' v∧t'≠t)→Done P G γ H w a o (.tup [.p z,.p (.bool false)]) H:=by
  intro hok hv
  refine .same I (v:=.tuple #[zv,.bool false]) ?_ (.tup _ _ rfl fun i x hx=>?_)
  ·have :(Instr.typeAssert (a.eval x) xt t ok).run P w= .ok (.tuple #[zv,.bool false]) w:=by
    subst hok
    unfold Instr.typeAssert
    simp only[Sem.run_bind,run_underlying ht,Result.andThen_ok]
    rcases hv with hv |⟨t',v,hv,hne⟩
    ·rw[hv]
     cases u<;>first |exact absurd rfl (hni _) |simp[hz1,Result.andThen]
    ·rw[hv]
     cases u<;>first |exact absurd rfl (hni _) |simp[hne,hz1,Result.andThen]
   simp[execOp,ho,this]
  ·match i with
   | 0=>simp only[List.getElem?_cons_zero,Option.some.injEq] at hx;subst hx;exact .p _ _ hzr
   | 1=>simp only[List.getElem?_cons_succ,List.getElem?_cons_zero,Option.some.injEq] at hx;subst hx;exact .p _ _ (.bool _)
   |i+2=>simp at hx
 unfold tassertD at hd0
 split at hd0
 ·rename_i u' y' hy
  rw[hy] at hr
  have hp:=hr.p_inv
  generalize hv:a.eval x=v at hp
  cases hp with
  |iface _ v0 _ h0=>
   split at hd0
   ·rename_i hut
    subst hut
    cases hd0
    have:=holds v0 (.p y') hv (.p _ _ h0)
    cases ok<;>exact this
   ·rename_i hut
    split at hd0
    ·rename_i hok
     cases hd0
     exact fails hok (.inr ⟨u',v0,hv,hut⟩)
    ·cases hd0
 ·rename_i u' y' hy
  rw[hy] at hr
  generalize hv:a.eval x=v at hr
  cases hr with
  |ifc _ v0 _ h0=>
   split at hd0
   ·rename_i hut
    subst hut
    cases hd0
    have:=holds v0 y' hv h0
    cases ok<;>exact this
   ·rename_i hut
    split at hd0
    ·rename_i hok
     cases hd0
     exact fails hok (.inr ⟨u',v0,hv,hut⟩)
    ·cases hd0
 ·rename_i hy
  rw[hy] at hr
  have hp:=hr.p_inv
  split at hd0
  ·rename_i hok
   cases hd0
   refine fails hok (.inl ?_)
   generalize a.eval x=v at hp
   cases hp;rfl
  ·cases hd0
 ·cases hd0
theorem op_done0(I:Inv G γ H w)(E:EnvRep γ env a.tmps){k:SK}(hk:kOf P o.op=some k)(hok:kOk P o k=true){d:D}{H':Hp}(he:evK G env H k=some (d,H')):Done P G γ H w a o d H':=by
 cases ho:o.op with
 |move x=>
  rw[ho] at hk
  obtain⟨y,hy,rfl⟩:=Option.map_eq_some_iff.1 hk
  simp only[evK] at he
  cases he
  exact done_move I E (.inl ho) hy
 |assign x=>
  rw[ho] at hk
  obtain⟨y,hy,rfl⟩:=Option.map_eq_some_iff.1 hk
  simp only[evK] at he
  cases he
  exact done_move I E (.inr ho) hy
 |pick c x y=>
  rw[ho] at hk
  simp only[kOf] at hk
  split at hk
  ·rename_i c' x' y' h1 h2 h3
   cases hk
   simp only[evK] at he
   split at he
   ·rename_i t ht
    cases he
    exact done_pick I E ho h1 h2 h3 ht
   ·cases he
  ·cases hk
 |alloc e=>
  rw[ho] at hk
  obtain⟨z,hz,rfl⟩:=Option.map_eq_some_iff.1 hk
  exact done_alloc I ho hz he
 |box e x=>
  rw[ho] at hk
  obtain⟨y,hy,rfl⟩:=Option.map_eq_some_iff.1 hk
  exact done_box I E ho hy he
 |build t parts=>
  rw[ho] at hk
  simp only[kOf] at hk
  split at hk
  ·rename_i fs zs h1 h2
   split at hk
   ·rename_i pl hpl
    obtain⟨qs,hq,rfl⟩:=Option.map_eq_some_iff.1 hk
    exact done_build_struct I E ho h1 h2 hpl hq he
   ·cases hk
  ·rename_i n e zs h1 h2
   split at hk
   ·rename_i s hs
    obtain⟨qs,hq,rfl⟩:=Option.map_eq_some_iff.1 hk
    exact done_build_array I E ho h1 h2 hs hq he
   ·cases hk
  ·cases hk
 |buildSlice t len parts=>
  rw[ho] at hk
  simp only[kOf] at hk
  split at hk
  ·rename_i e h1
   split at hk
   ·rename_i n z ps h2 h3 h4
    split at hk
    ·rename_i hlim
     cases hk
     exact done_bslice I E ho h1 h2 h3 h4 hlim he
    ·cases hk
   ·cases hk
  ·cases hk
 |load t x=>
  rw[ho] at hk
  simp only[kOf] at hk
  split at hk
  ·rename_i n y h1 h2
   cases hk
   exact done_load I E ho h1 h2 he
  ·cases hk
 |store t x y=>
  rw[ho] at hk
  simp only[kOf] at hk
  split at hk
  ·rename_i n x' y' h1 h2 h3
   cases hk
   exact done_store I E ho h1 h2 h3 he
  ·cases hk
 |nilCheck x=>
  rw[ho] at hk
  obtain⟨y,hy,rfl⟩:=Option.map_eq_some_iff.1 hk
  exact done_nilCheck I E ho hy he
 |binOp op t x y yt=>
  rw[ho] at hk
  simp only[kOf] at hk
  split at hk
  ·rename_i h1 h2 _
   cases hk
   exact done_bin I E ho h1 h2 he
  ·rename_i h1 h2 _
   cases hk
   exact done_bin I E ho h1 h2 he
  ·rename_i h1 h2 h3
   split at hk
   ·rename_i hop
    cases hk
    exact done_eqk I E ho hop h1 h2 (.inl ⟨rfl,h3⟩) he
   ·cases hk
  ·rename_i h1 h2 h3
   split at hk
   ·rename_i hop
    cases hk
    exact done_eqk I E ho hop h1 h2 (.inr (.inl ⟨rfl,_,h3⟩)) he
   ·cases hk
  ·rename_i h1 h2 h3
   split at hk
   ·rename_i hop
    cases hk
    exact done_eqk I E ho hop h1 h2 (.inr (.inr (.inl ⟨rfl,_,h3⟩))) he
   ·cases hk
  ·rename_i h1 h2 h3
   split at hk
   ·rename_i hop
    cases hk
    exact done_eqk I E ho hop h1 h2 (.inr (.inr (.inr ⟨rfl,_,_,_,h3⟩))) he
   ·cases hk
  ·rename_i h1 h2 h3
   split at hk
   ·rename_i hop
    cases hk
    obtain⟨hop,hyc⟩:=hop
    cases y with
    |const c=>exact done_eqi I E ho hop rfl h1 h2 h3 he
    |_=>cases hyc
   ·cases hk
  ·rename_i h1 h2 h3
   split at hk
   ·rename_i hop
    obtain⟨ts,hts,rfl⟩:=Option.map_eq_some_iff.1 hk
    exact done_eqs I E ho hop.1 h1 h2 h3 hop.2.1 hop.2.2 hts he
   ·cases hk
  ·cases hk
 |unOp op t x=>
  rw[ho] at hk
  obtain⟨y,hy,rfl⟩:=Option.map_eq_some_iff.1 hk
  exact done_un I E ho hy he
 |convert s t x=>
  rw[ho] at hk
  simp only[kOf] at hk
  split at hk
  ·rename_i h1 h2 h3
   cases hk
   exact done_conv I E ho h1 h2 h3 he
  ·rename_i h1 h2 h3
   cases hk
   exact done_strid I E ho h1 h2 h3 he
  ·rename_i h1 h2 h3
   split at hk
   ·rename_i h4
    cases hk
    exact done_toBytes I E ho h1 h2 h4 h3 he
   ·cases hk
  ·rename_i h1 h2 h3
   split at hk
   ·rename_i h4
    cases hk
    exact done_toStr I E ho h1 h4 h2 h3 he
   ·cases hk
  ·cases hk
 |makeFunc fn first cap=>
  rw[ho] at hk
  cases fn with
  |func f=>
   simp only[kOf] at hk
   split at hk
   ·rename_i h1 h2
    cases hk
    simp only[evK] at he
    cases he
    exact done_mkfn I E ho h1 h2
   ·cases hk
  |_=>cases hk
 |slice t x lo hi mx=>
  rw[ho] at hk
  cases mx with
  |some m=>simp only[kOf] at hk;cases hk
  |none=>
   simp only[kOf] at hk
   split at hk
   ·rename_i h1 h2 h3 h4
    cases hk
    exact done_slice_str I E ho h1 h2 h3 h4 he
   ·rename_i h1 h2 h3 h4
    split at hk
    ·rename_i h5
     cases hk
     exact done_slice_sl I E ho h1 h5 h2 h3 h4 he
    ·cases hk
   ·cases hk
 |fieldAddr t x f=>
  rw[ho] at hk
  simp only[kOf] at hk
  split at hk
  ·rename_i h1 h2
   split at hk
   ·rename_i h3
    split at hk
    ·rename_i h4
     cases hk
     exact done_faddr I E ho h2 h1 h3 h4 he
    ·cases hk
   ·cases hk
  ·cases hk
 |field t x f=>
  rw[ho] at hk
  simp only[kOf] at hk
  split at hk
  ·rename_i h1 h2
   split at hk
   ·rename_i h3
    obtain⟨n,hn,rfl⟩:=Option.map_eq_some_iff.1 hk
    exact done_field I E ho h2 h1 h3 hn he
   ·cases hk
  ·cases hk
 |indexAddr t x i=>
  rw[ho] at hk
  simp only[kOf] at hk
  split at hk
  ·rename_i h1 h2 h3
   obtain⟨n,hn,rfl⟩:=Option.map_eq_some_iff.1 hk
   exact done_iaddr_array I E ho h1 hn h2 h3 he
  ·rename_i h1 h2 h3
   obtain⟨n,hn,rfl⟩:=Option.map_eq_some_iff.1 hk
   exact done_iaddr_slice I E ho h1 hn h2 h3 he
  ·cases hk
 |index t x i=>
  rw[ho] at hk
  simp only[kOf] at hk
  split at hk
  ·rename_i h1 h2 h3
   split at hk
   ·rename_i h4 h5
    cases hk
    exact done_index_arr I E ho h1 h4 h5 h2 h3 he
   ·cases hk
  ·rename_i h1 h2 h3
   cases hk
   exact done_index_str I E ho h1 h2 h3 he
  ·cases hk
 |extract x i=>
  rw[ho] at hk
  obtain⟨y,hy,rfl⟩:=Option.map_eq_some_iff.1 hk
  exact done_extract I E ho hy he
 |makeInterface t x=>
  rw[ho] at hk
  simp only[kOf] at hk
  split at hk
  ·cases hk
  ·rename_i hni h1 h2
   cases hk
   exact done_iface I ho (by rw[h1];rfl) (fun ms h=>by rw[h1] at h;cases h;exact hni _ rfl) he (opdOf_rep E h2) (fun z hz=>seal_rep (opdOf_rep E h2) hz)
  ·cases hk
 |call c=>
  rw[ho] at hk
  simp only[kOf] at hk
  obtain⟨callee,args,ats⟩:=c
  cases callee with
  |value f=>
   simp only[callOf] at hk
   split at hk
   ·cases hk;simp only[evK] at he;cases he
   ·cases hk
  |invoke r m=>simp only[callOf] at hk;cases hk
  |builtin b=>
   simp only[callOf] at hk
   split at hk
   ·rename_i x t e1 e2
    have hargs:args= #[x]:=by simpa using congrArg List.toArray e1
    have hats:ats= #[t]:=by simpa using congrArg List.toArray e2
    subst hargs;subst hats
    split at hk
    ·rename_i h1 h2
     cases hk
     exact done_len I E ho (.inl ⟨rfl,h1⟩) h2 he
    ·rename_i h1 h2
     cases hk
     exact done_len I E ho (.inr ⟨rfl,_,h1⟩) h2 he
    ·cases hk
   ·rename_i s x t u e1 e2
    have hargs:args= #[s,x]:=by simpa using congrArg List.toArray e1
    have hats:ats= #[t,u]:=by simpa using congrArg List.toArray e2
    subst hargs;subst hats
    split at hk
    ·rename_i e du s' x' h1 h2 h3 h4
     split at hk
     ·rename_i i hi
      split at hk
      ·rename_i z hz
       split at hk
       ·rename_i hc
        cases hk
        simp only[appOk,Bool.and_eq_true,decide_eq_true_eq,beq_iff_eq] at hc
        obtain⟨⟨c1,c2⟩,c3⟩:=hc
        refine done_append I E ho h1 h2 ?_ hi hz c2 c3 h3 h4 he
        cases du<;>first |(simp at c1;done) |exact .inl ⟨_,rfl⟩ |exact .inr rfl
       ·cases hk
      ·cases hk
     ·cases hk
    ·cases hk
   ·rename_i x e1
    have hargs:args= #[x]:=by simpa using congrArg List.toArray e1
    subst hargs
    obtain⟨y,hy,rfl⟩:=Option.map_eq_some_iff.1 hk
    exact done_sdata I E ho hok hy he
   ·rename_i x n t it e1 e2
    have hargs:args= #[x,n]:=by simpa using congrArg List.toArray e1
    have hats:ats= #[t,it]:=by simpa using congrArg List.toArray e2
    subst hargs;subst hats
    split at hk
    ·rename_i h1 h2 h3
     split at hk
     ·rename_i h4
      cases hk
      exact done_ustr I E ho h1 (by simpa using h4) h2 h3 he
     ·cases hk
    ·cases hk
   ·rename_i x y e1
    have hargs:args= #[x,y]:=by simpa using congrArg List.toArray e1
    subst hargs
    split at hk
    ·rename_i h1 h2
     cases hk
     exact done_minmax I E (mx:=true) (ts:=ats) ho h1 h2 he
    ·cases hk
   ·rename_i x y e1
    have hargs:args= #[x,y]:=by simpa using congrArg List.toArray e1
    subst hargs
    split at hk
    ·rename_i h1 h2
     cases hk
     exact done_minmax I E (mx:=false) (ts:=ats) ho h1 h2 he
    ·cases hk
   ·cases hk
 |makeMap t r=>
  rw[ho] at hk
  cases r with
  |none=>
   simp only[kOf] at hk
   split at hk
   ·rename_i h1
    obtain⟨g,hg,rfl⟩:=Option.map_eq_some_iff.1 hk
    exact done_mkmap I ho he
   ·cases hk
  |some r=>simp[kOf] at hk
 |typeAssert x xt t ok=>
  rw[ho] at hk
  simp only[kOf] at hk
  split at hk
  ·cases hk
  ·rename_i hni h1 h2 h3
   cases hk
   exact done_tassert I E ho h1 (fun ms h=>hni ms h) h2 h3 he
  ·cases hk
 |mapUpdate t m k' x=>
  rw[ho] at hk
  simp only[kOf] at hk
  split at hk
  ·rename_i h1 h2 h3 h4
   obtain⟨g,hg,rfl⟩:=Option.map_eq_some_iff.1 hk
   exact done_mapset I E ho h1 hg h2 h3 h4 he
  ·cases hk
 |insert t m k' x=>
  rw[ho] at hk
  simp only[kOf] at hk
  split at hk
  ·rename_i h1 h2 h3 h4
   obtain⟨g,hg,rfl⟩:=Option.map_eq_some_iff.1 hk
   exact done_mapins I E (.inr ho) h1 hg h2 h3 h4 he
  ·cases hk
 |lookup t m k' ok=>
  rw[ho] at hk
  simp only[kOf] at hk
  split at hk
  ·rename_i h1 h2 h3
   split at hk
   ·rename_i hg hz
    cases hk
    exact done_mapget I E ho h1 hg hz h2 h3 he
   ·cases hk
  ·cases hk
 |_=>rw[ho] at hk;cases hk
theorem kOp_plain{k:SK}(h:kOp P o.op=k)(hc:k.isCall=false)(hs:k≠.stuck):kOf P o.op=some k:=by
 unfold kOp at h
 split at h
 ·rename_i r hr
  exfalso
  unfold callK at hr
  split at hr
  ·split at hr<;>cases hr
   ·subst h;simp[SK.isCall] at hc
   ·exact hs h.symm
  ·rename_i x _
   cases hr
   cases hx:opdOf x with
   |none=>rw[hx] at h;exact hs h.symm
   |some y=>rw[hx] at h;subst h;simp[SK.isCall] at hc
  ·cases hr
 ·split at h
  ·rename_i k' hk'
   split at h
   ·exact absurd h.symm hs
   ·subst h;exact hk'
  ·exact absurd h.symm hs
theorem op_done(I:Inv G γ H w)(E:EnvRep γ env a.tmps){hint:Option SK}{k:SK}(hk:kHint P o hint=k)(hc:k.isCall=false){d:D}{H':Hp}(he:evK G env H k=some (d,H')):Done P G γ H w a o d H':=by
 have hs:k≠.stuck:=fun e=>by subst e;simp[evK] at he
 unfold kHint at hk
 split at hk
 ·rename_i hok
  rw[hk] at hok
  unfold kRaw at hk
  split at hk
  ·split at hk
   ·rename_i as ts e sz b s x ho hkop
    subst hk
    have hkf:=kOp_plain hkop rfl (fun h=>by cases h)
    rw[ho] at hkf
    simp only[kOf,callOf] at hkf
    split at hkf<;>try contradiction
    rename_i s0 x0 t u _ e1 e2
    have hargs:as= #[s0,x0]:=by simpa using congrArg List.toArray e1
    have hats:ts= #[t,u]:=by simpa using congrArg List.toArray e2
    subst hargs;subst hats
    split at hkf
    ·rename_i e0 du s' x' h1 h2 h3 h4
     split at hkf
     ·rename_i i hi
      split at hkf
      ·rename_i z hz
       split at hkf
       ·rename_i hcc
        cases hkf
        simp only[appOk,Bool.and_eq_true,decide_eq_true_eq,beq_iff_eq] at hcc
        obtain⟨⟨c1,c2⟩,c3⟩:=hcc
        refine done_appendm I E ho h1 h2 ?_ hi hz c2 c3 h3 h4 he
        cases du<;>first |(simp at c1;done) |exact .inl ⟨_,rfl⟩ |exact .inr rfl
       ·cases hkf
      ·cases hkf
     ·cases hkf
    ·cases hkf
   ·exact op_done0 I E (kOp_plain hk hc hs) hok he
  ·split at hk
   ·rename_i t zs ho hkop
    subst hk
    have hkf:=kOp_plain hkop rfl (fun h=>by cases h)
    rw[ho] at hkf
    obtain⟨z,hz,hzz⟩:=Option.map_eq_some_iff.1 hkf
    cases hzz
    exact done_allocB I ho hz he
   ·exact op_done0 I E (kOp_plain hk hc hs) hok he
  ·split at hk
   ·rename_i t x0 x ho hkop
    subst hk
    have hkf:=kOp_plain hkop rfl (fun h=>by cases h)
    rw[ho] at hkf
    obtain⟨y,hy,hyy⟩:=Option.map_eq_some_iff.1 hkf
    cases hyy
    exact done_boxB I E ho hy he
   ·exact op_done0 I E (kOp_plain hk hc hs) hok he
  ·exact op_done0 I E (kOp_plain hk hc hs) hok he
 ·exact absurd hk.symm hs
variable {P : Program} {G : Nat → Option (List PD)} {γ : Gh} {H : Hp} {w : World}
theorem renL_get{bi ti:Nat→Option Nat}:∀{ds ds':List D},D.renL bi ti ds=some ds'→ds'.length=ds.length∧∀(i:Nat) d,ds'[i]? =some d→∃c,ds[i]? =some c∧c.ren bi ti=some d
 |[],ds',h=>by simp only[D.renL] at h;cases h;exact⟨rfl,fun i d h=>by simp at h⟩
 |c::r,ds',h=>by
  simp only[D.renL] at h
  split at h
  ·rename_i x hx
   obtain⟨r',hr,rfl⟩:=Option.map_eq_some_iff.1 h
   obtain⟨h1,h2⟩:=renL_get hr
   refine⟨by simp[h1],fun i d hd=>?_⟩
   match i with
   | 0=>simp only[List.getElem?_cons_zero,Option.some.injEq] at hd;subst hd;exact⟨c,rfl,hx⟩
   |i+1=>exact h2 i d (by simpa using hd)
  ·cases h
theorem ren_one{bi ti:Nat→Option Nat}{d d':D}(h:d.ren bi ti=some d')(h1:d.one=true):d'.one=true:=by
 cases d<;>simp only[D.ren] at h<;>first |(simp[D.one] at h1;done) |(cases h;exact h1) |skip
 ·split at h<;>cases h<;>rfl
 ·obtain⟨j,_,rfl⟩:=Option.map_eq_some_iff.1 h;rfl
 ·split at h
  ·cases h;rfl
  ·cases h
 all_goals obtain⟨j,_,rfl⟩:=Option.map_eq_some_iff.1 h;rfl
structure Ren (γ1 γ2:Gh) (bi ti:Nat→Option Nat):Prop where
 base:γ2.base=γ1.base
 tys:∀b x,γ1.tys b=some x→γ2.tys b=some x
 mem:Mem.le γ1.mem γ2.mem
 box:∀i j b,bi i=some j→γ1.boxes[i]? =some b→γ2.boxes[j]? =some b
 row:∀(t u:Nat) row,ti t=some u→γ1.rows[t]? =some row→∃row',γ2.rows[u]? =some row'∧row'.e=row.e∧row'.sz=row.sz∧∀n x,row.st n=some x→row'.st n=some x
theorem ren_rep{γ1 γ2:Gh}{bi ti:Nat→Option Nat}(R:Ren γ1 γ2 bi ti){v:Value}{d:D}(r:RepD γ1 v d):∀{d':D},d.ren bi ti=some d'→RepD γ2 v d':=by
 induction r with
 |dead v=>intro d' h;simp only[D.ren] at h;cases h;exact .dead v
 |undef=>intro d' h;simp only[D.ren] at h;cases h;exact .undef
 |p v x hx=>intro d' h;simp only[D.ren] at h;cases h;exact .p v x (hx.mono R.mem)
 |fsl b n e sz es hb ht hn hx=>intro d' h;simp only[D.ren] at h;cases h;exact .fsl b n e sz es (R.base▸hb) (R.tys _ _ ht) hn (hx.mono R.mem)
 |tsl v t e sz es row r h1 h2 h3 h4 h5 h6=>
  intro d' h
  simp only[D.ren] at h
  split at h
  ·rename_i u hu
   cases h
   obtain⟨row',a1,a2,a3,a4⟩:=R.row t u row hu h1
   exact .tsl v u e sz es row' r a1 (a2.trans h2) (a3.trans h3) (h4.mono R.mem) (a4 _ _ h5) h6
  ·cases h
   exact .p _ _ (h4.mono R.mem)
 |box i off b hb=>
  intro d' h
  simp only[D.ren] at h
  obtain⟨j,hj,rfl⟩:=Option.map_eq_some_iff.1 h
  exact .box j off b (R.box i j b hj hb)
 |glob g off=>intro d' h;simp only[D.ren] at h;cases h;exact .glob g off
 |ro b o off cs vs hm hr=>intro d' h;simp only[D.ren] at h;cases h;exact .ro b o off cs vs (fun j hj=>R.mem _ _ _ (hm j hj)) (fun j c hc=>⟨(hr j c hc).1.mono R.mem,(hr j c hc).2⟩)
 |agg cs ds hl hone hr ih=>
  intro d' h
  simp only[D.ren] at h
  obtain⟨ds',hd,rfl⟩:=Option.map_eq_some_iff.1 h
  obtain⟨h1,h2⟩:=renL_get hd
  refine .agg cs ds' (hl.trans h1.symm) (fun d hd'=>?_) (fun i d hi=>?_)
  ·obtain⟨i,hi⟩:=List.getElem?_of_mem hd'
   obtain⟨c,a1,a2⟩:=h2 i d hi
   exact ren_one a2 (hone c (List.mem_of_getElem? a1))
  ·obtain⟨c,a1,a2⟩:=h2 i d hi
   exact ih i c a1 a2
 |tup cs ds hl hr ih=>
  intro d' h
  simp only[D.ren] at h
  obtain⟨ds',hd,rfl⟩:=Option.map_eq_some_iff.1 h
  obtain⟨h1,h2⟩:=renL_get hd
  refine .tup cs ds' (hl.trans h1.symm) (fun i d hi=>?_)
  obtain⟨c,a1,a2⟩:=h2 i d hi
  exact ih i c a1 a2
 |fn f as cs ds es hl hr kl kr ih ih'=>
  intro d' h
  simp only[D.ren] at h
  split at h
  ·rename_i a' c' ha hc
   cases h
   obtain⟨h1,h2⟩:=renL_get ha
   obtain⟨h3,h4⟩:=renL_get hc
   refine .fn f as cs a' c' (hl.trans h1.symm) (fun i d hi=>?_) (kl.trans h3.symm) (fun i d hi=>?_)
   ·obtain⟨c,a1,a2⟩:=h2 i d hi
    exact ih i c a1 a2
   ·obtain⟨c,a1,a2⟩:=h4 i d hi
    exact ih' i c a1 a2
  ·cases h
 |msl i off n cap sz b c hb hc hcap=>
  intro d' h
  simp only[D.ren] at h
  obtain⟨j,hj,rfl⟩:=Option.map_eq_some_iff.1 h
  exact .msl j off n cap sz b c (R.box i j b hj hb) hc hcap
 |esl a sz=>intro d' h;simp only[D.ren] at h;cases h;exact .esl a sz
 |ifc t v d _ ih=>
  intro d' h
  simp only[D.ren] at h
  obtain⟨x,hx,rfl⟩:=Option.map_eq_some_iff.1 h
  exact .ifc t v x (ih hx)
 |dptr b n cap d _ hn hb ih=>
  intro d' h
  simp only[D.ren] at h
  obtain⟨x,hx,rfl⟩:=Option.map_eq_some_iff.1 h
  exact .dptr b n cap x (ih hx) hn (R.base▸hb)
 |anyp p=>intro d' h;simp only[D.ren] at h;cases h;exact .anyp p
 |fresh T n i b hb ht=>
  intro d' h
  simp only[D.ren] at h
  obtain⟨j,hj,rfl⟩:=Option.map_eq_some_iff.1 h
  exact .fresh T n j b (R.box i j b hj hb) (R.tys _ _ ht)
 |mapr i b hb=>
  intro d' h
  simp only[D.ren] at h
  obtain⟨j,hj,rfl⟩:=Option.map_eq_some_iff.1 h
  exact .mapr j b (R.box i j b hj hb)
 |mapc as cs kd ks ds s hl kl dl hs hj hg hr hd kr ih=>
  intro d' h
  simp only[D.ren] at h
  obtain⟨vs',hv,rfl⟩:=Option.map_eq_some_iff.1 h
  obtain⟨h1,h2⟩:=renL_get hv
  refine .mapc as cs kd ks vs' s hl kl (h1.trans dl) hs hj hg (fun i x hx=>⟨(hr i x hx).1.mono R.mem,(hr i x hx).2⟩) hd (fun i d hi=>?_)
  obtain⟨c,a1,a2⟩:=h2 i d hi
  exact ih i c a1 a2
def isMap1:D→Bool
 | .mapc _ _ _=>true
 |_=>false
theorem isMapC_one1(d:D):isMapC [d]=isMap1 d:=by cases d<;>rfl
theorem isMapC_two(d e:D)(r:List D):isMapC (d::e::r)=false:=by simp[isMapC]
theorem ren_map1{bi ti:Nat→Option Nat}{d d':D}(h:D.ren bi ti d=some d'):isMap1 d'=isMap1 d:=by
 cases d with
 |tsl t e sz es=>
  simp only[D.ren] at h
  split at h<;>cases h<;>rfl
 |fn f a c=>
  simp only[D.ren] at h
  split at h<;>cases h;rfl
 |_=>
  first
   |(simp only[D.ren,Option.some.injEq] at h;subst h;rfl)
   |(simp only[D.ren] at h;obtain⟨x,_,rfl⟩:=Option.map_eq_some_iff.1 h;rfl)
theorem renL_map{bi ti:Nat→Option Nat}{cs cs':List D}(h:D.renL bi ti cs=some cs'):isMapC cs'=isMapC cs:=by
 match cs with
 |[]=>simp only[D.renL,Option.some.injEq] at h;subst h;rfl
 |[d]=>
  simp only[D.renL] at h
  split at h
  ·rename_i x hx
   simp only[Option.map_some,Option.some.injEq] at h
   subst h
   rw[isMapC_one1,isMapC_one1,ren_map1 hx]
  ·cases h
 |d::e::r=>
  have hl:=(renL_get h).1
  match cs',hl with
  |a::b::q,_=>rw[isMapC_two,isMapC_two]
theorem renL_rep{γ1 γ2:Gh}{bi ti:Nat→Option Nat}(R:Ren γ1 γ2 bi ti){vs:Array Value}{ds ds':List D}(r:RepL γ1 vs ds)(h:D.renL bi ti ds=some ds'):RepL γ2 vs ds':=by
 obtain⟨h1,h2⟩:=renL_get h
 refine⟨r.1.trans h1.symm,fun i d hi=>?_⟩
 obtain⟨c,a1,a2⟩:=h2 i d hi
 exact ren_rep R (r.2 i c a1) a2
theorem renB_rep{γ1 γ2:Gh}{bi ti:Nat→Option Nat}(R:Ren γ1 γ2 bi ti){vs:Array Value}{ds ds':List D}(r:RepB γ1 vs ds)(h:D.renL bi ti ds=some ds'):RepB γ2 vs ds':=by
 obtain⟨h1,h2⟩:=renL_get h
 refine⟨by rw[h1];exact r.1,fun i d hi=>?_⟩
 obtain⟨c,a1,a2⟩:=h2 i d hi
 exact ren_rep R (r.2 i c a1) a2
theorem renL_ne{bi ti:Nat→Option Nat}{ds ds':List D}(h:D.renL bi ti ds=some ds')(hn:ds'≠[]):ds≠[]:=by
 obtain⟨h1,_⟩:=renL_get h
 intro e;subst e
 exact hn (by simpa using h1)
theorem renL_ones{bi ti:Nat→Option Nat}{ds ds':List D}(h:D.renL bi ti ds=some ds')(h1:∀d∈ds,d.one=true):∀d∈ds',d.one=true:=by
 obtain⟨_,h2⟩:=renL_get h
 intro d hd
 obtain⟨i,hi⟩:=List.getElem?_of_mem hd
 obtain⟨c,a1,a2⟩:=h2 i d hi
 exact ren_one a2 (h1 c (List.mem_of_getElem? a1))
theorem idx_some:∀{l:List Nat} {i j:Nat},idx l i=some j→l[j]? =some i
 |[],i,j,h=>by cases h
 |a::r,i,j,h=>by
  simp only[idx] at h
  split at h
  ·rename_i e;cases h;simp[e]
  ·obtain⟨k,hk,rfl⟩:=Option.map_eq_some_iff.1 h
   simpa using idx_some hk
theorem nodupB_iff:∀{l:List Nat},nodupB l=true→l.Nodup
 |[],_=>List.nodup_nil
 |a::r,h=>by
  simp only[nodupB,Bool.and_eq_true,Bool.not_eq_true',List.contains_eq_mem,decide_eq_false_iff_not] at h
  exact List.nodup_cons.2 ⟨h.1,nodupB_iff h.2⟩
theorem putAll_length{α:Type}:∀(is:List Nat) (l xs:List α),(putAll l is xs).length=l.length
 |[],l,xs=>by simp[putAll]
 |i::is,l,[]=>by simp[putAll]
 |i::is,l,x::xs=>by simp[putAll,putAll_length is]
theorem putAll_out{α:Type}:∀(is:List Nat) (l xs:List α) (i:Nat),i∉is→(putAll l is xs)[i]? =l[i]?
 |[],l,xs,i,_=>by simp[putAll]
 |k::is,l,[],i,_=>by simp[putAll]
 |k::is,l,x::xs,i,h=>by
  simp only[List.mem_cons,not_or] at h
  simp only[putAll]
  rw[putAll_out is _ _ i h.2,List.getElem?_set_ne (Ne.symm h.1)]
theorem putAll_in{α:Type}:∀(is:List Nat) (l xs:List α) (j i:Nat),is.Nodup→is[j]? =some i→i<l.length→j<xs.length→(putAll l is xs)[i]? =xs[j]?
 |[],l,xs,j,i,_,h,_,_=>by simp at h
 |k::is,l,[],j,i,_,_,_,h=>by simp at h
 |k::is,l,x::xs,j,i,hn,hj,hi,hx=>by
  obtain⟨n1,n2⟩:=List.nodup_cons.1 hn
  simp only[putAll]
  match j with
  | 0=>
   simp only[List.getElem?_cons_zero,Option.some.injEq] at hj
   subst hj
   rw[putAll_out is _ _ k n1]
   simp[hi]
  |j+1=>
   rw[putAll_in is _ xs j i n2 (by simpa using hj) (by simpa using hi) (by simpa using hx)]
   simp
theorem nodup_get{l:List Nat}(h:l.Nodup){i j a:Nat}(hi:l[i]? =some a)(hj:l[j]? =some a):i=j:=by
 have hlt:=(List.getElem?_eq_some_iff.1 hi).1
 exact(List.getElem?_inj hlt h).1 (hi.trans hj.symm)
theorem firstN_some{α:Type}{l l':List α}{n:Nat}(h:firstN l n=some l'):n≤l.length∧l'=l.take n:=by
 unfold firstN at h
 split at h
 ·rename_i hn;cases h;exact⟨hn,rfl⟩
 ·cases h
def Gh.part(γ:Gh)(ids tks:List Nat):Gh:=
 {base:=γ.base,tys:=γ.tys,mem:=γ.mem,boxes:=ids.map fun i=>(γ.boxes[i]?).getD 0,rows:=tks.map fun t=>(γ.rows[t]?).getD ⟨0,0,fun _=>none⟩}
theorem part_boxes{ids tks:List Nat}{j b:Nat}:(γ.part ids tks).boxes[j]? =some b↔∃i,ids[j]? =some i∧(γ.boxes[i]?).getD 0=b:=by
 simp[Gh.part,List.getElem?_map,Option.map_eq_some_iff]
theorem part_rows{ids tks:List Nat}{j:Nat}{row:Row}:(γ.part ids tks).rows[j]? =some row↔∃t,tks[j]? =some t∧(γ.rows[t]?).getD ⟨0,0,fun _=>none⟩=row:=by
 simp[Gh.part,List.getElem?_map,Option.map_eq_some_iff]
section
variable {ids tks : List Nat} {bx : List (List D)} {tk : List Nat}
 (hni:ids.Nodup) (hnt:tks.Nodup) (hbx:mapO (fun i=>match H.bx[i]? with |some cs=>D.renL (idx ids) (idx tks) cs |none=>none) ids=some bx) (htk:mapO (fun t=>H.tk[t]?) tks=some tk)
include hni hnt hbx htk
omit hni hnt htk in
theorem part_box_of(I:Inv G γ H w){j b:Nat}(h:(γ.part ids tks).boxes[j]? =some b):∃i,ids[j]? =some i∧γ.boxes[i]? =some b:=by
 obtain⟨i,hi,hb⟩:=part_boxes.1 h
 obtain⟨_,m2⟩:=mapO_get hbx
 obtain⟨y,hy,_⟩:=m2 j i hi
 have hlt:i<γ.boxes.length:=by
  rw[I.lenB]
  split at hy
  ·rename_i cs hcs;exact(List.getElem?_eq_some_iff.1 hcs).1
  ·cases hy
 rw[List.getElem?_eq_getElem hlt] at hb
 exact⟨i,hi,by rw[List.getElem?_eq_getElem hlt];simpa using hb⟩
omit hni hnt hbx in
theorem part_row_of(I:Inv G γ H w){j:Nat}{row:Row}(h:(γ.part ids tks).rows[j]? =some row):∃t,tks[j]? =some t∧γ.rows[t]? =some row:=by
 obtain⟨t,hi,hb⟩:=part_rows.1 h
 obtain⟨_,m2⟩:=mapO_get htk
 obtain⟨y,hy,_⟩:=m2 j t hi
 have hlt:t<γ.rows.length:=by rw[I.lenT];exact(List.getElem?_eq_some_iff.1 hy).1
 rw[List.getElem?_eq_getElem hlt] at hb
 exact⟨t,hi,by rw[List.getElem?_eq_getElem hlt];simpa using hb⟩
omit hni hnt hbx in
theorem part_tk{j t f:Nat}(h1:tks[j]? =some t)(h2:tk[j]? =some f):H.tk[t]? =some f:=by
 obtain⟨_,m2⟩:=mapO_get htk
 obtain⟨y,hy,hy'⟩:=m2 j t h1
 rw[h2] at hy'
 cases hy'
 exact hy
omit hni hnt hbx htk in
theorem part_ren:Ren γ (γ.part ids tks) (idx ids) (idx tks):=by
 refine⟨rfl,fun _ _ h=>h,fun _ _ _ h=>h,fun i j b h hb=>part_boxes.2 ⟨i,idx_some h,by rw[hb];rfl⟩,fun t u row h hr=>⟨row,part_rows.2 ⟨t,idx_some h,by rw[hr];rfl⟩,rfl,rfl,fun _ _ h=>h⟩⟩
omit hni hnt htk in
theorem part_mem(I:Inv G γ H w){b:Nat}(h:b∈(γ.part ids tks).boxes):b∈γ.boxes:=by
 obtain⟨j,hj⟩:=List.getElem?_of_mem h
 obtain⟨i,_,hi⟩:=part_box_of hbx I hj
 exact List.mem_of_getElem? hi
omit hni hnt hbx in
theorem part_free(I:Inv G γ H w){j b:Nat}(h:Free (γ.part ids tks) ⟨bx,tk⟩ j b):∃t,tks[j]? =some t∧Free γ H t b:=by
 obtain⟨row,f,cap,h1,h2,h3,h4⟩:=h
 obtain⟨t,ht,hr⟩:=part_row_of htk I h1
 exact⟨t,ht,row,f,cap,hr,part_tk htk ht h2,h3,h4⟩
theorem part_inv(I:Inv G γ H w):Inv G (γ.part ids tks) ⟨bx,tk⟩ w:=by
 have hR:=part_ren (γ:=γ) (ids:=ids) (tks:=tks)
 constructor
 ·exact I.size
 ·exact I.tys
 ·intro j row n b cap h1 h2
  obtain⟨t,_,hr⟩:=part_row_of htk I h1
  exact I.rowb t row n b cap hr h2
 ·exact I.mem
 ·exact I.globs
 ·simp[Gh.part,(mapO_get hbx).1]
 ·have :(γ.part ids tks).boxes.Nodup:=by
   refine List.pairwise_iff_getElem.2 fun j k hj hk' hjk he0=>?_
   have he:(γ.part ids tks).boxes[j]? =(γ.part ids tks).boxes[k]?:=by rw[List.getElem?_eq_getElem hj,List.getElem?_eq_getElem hk',he0]
   obtain⟨b,hb⟩:∃b,(γ.part ids tks).boxes[k]? =some b:=⟨_,List.getElem?_eq_getElem hk'⟩
   obtain⟨i,h1,h2⟩:=part_box_of hbx I (he.trans hb)
   obtain⟨i',h3,h4⟩:=part_box_of hbx I hb
   have :i=i':=nodup_get I.nodup h2 h4
   subst this
   have:=nodup_get hni h1 h3
   omega
  exact this
 ·intro j b cs hb hc
  obtain⟨i,hi,hbi⟩:=part_box_of hbx I hb
  have hc:bx[j]? =some cs:=hc
  obtain⟨i',h1,h2⟩:=mapO_back hbx hc
  rw[hi] at h1
  cases h1
  split at h2
  ·rename_i cs0 hcs0
   obtain⟨vs,T,fr,q1,q2,q3,q4⟩:=I.box i b cs0 hbi hcs0
   exact⟨vs,T,fr,(viewC_same (renL_map h2) _).trans q1,renB_rep hR q2 h2,fun hm=>renL_ones h2 (q3 ((renL_map h2).symm.trans hm)),fun hn=>q4 (renL_ne h2 hn)⟩
  ·cases h2
 ·intro b o hb
  exact I.boxmem b o (part_mem hbx I hb)
 ·simp[Gh.part,(mapO_get htk).1]
 ·intro j row f h1 h2
  obtain⟨t,ht,hr⟩:=part_row_of htk I h1
  obtain⟨r,q1,q2⟩:=I.row t row f hr (part_tk htk ht h2)
  exact⟨r,q1,q2.keep (fun _ _ h=>h) (fun _ _ _ _=>rfl) (fun _ _ _ _ _=>rfl) (fun b cap _ _ hb hb'=>hb (part_mem hbx I hb'))⟩
 ·intro j row f h1 h2
  obtain⟨t,ht,hr⟩:=part_row_of htk I h1
  exact I.rowmax t row f hr (part_tk htk ht h2)
 ·intro j k b h h'
  obtain⟨t,h1,h2⟩:=part_free htk I h
  obtain⟨t',h3,h4⟩:=part_free htk I h'
  have:=I.free t t' b h2 h4
  subst this
  exact nodup_get hnt h1 h3
def Gh.whole(γ γl:Gh)(ids tks:List Nat)(kept:Bool):Gh:=
 {base:=γ.base,tys:=γl.tys,mem:=γl.mem,boxes:=γ.boxes++(if kept then γl.boxes.drop ids.length else[]),rows:=putAll γ.rows tks (γl.rows.take tks.length)}
omit hni hbx htk hnt in
theorem whole_row_in{γl:Gh}{kept:Bool}(hnt:tks.Nodup){j t:Nat}(hj:tks[j]? =some t)(ht:t<γ.rows.length)(hl:tks.length≤γl.rows.length):(γ.whole γl ids tks kept).rows[t]? =γl.rows[j]?:=by
 have hj':=(List.getElem?_eq_some_iff.1 hj).1
 simp only[Gh.whole]
 rw[putAll_in tks γ.rows _ j t hnt hj ht (by simp;omega),List.getElem?_take,if_pos hj']
theorem whole_ok(I:Inv G γ H w){γl:Gh}{Hl:Hp}{w':World}(L:(γ.part ids tks).le γl)(F:Frame (γ.part ids tks) ⟨bx,tk⟩ w γl Hl w')(J:Inv G γl Hl w')(kept:Bool){bx' nw:List (List D)}{bi:Nat→Option Nat}
    (hm:ids.length≤Hl.bx.length) (ht:tks.length≤Hl.tk.length)
    (hbi:∀i j,bi i=some j→(i<ids.length∧ids[i]? =some j)∨(kept=true∧ids.length≤i∧j=H.bx.length+(i-ids.length)))
    (hb:mapO (D.renL bi fun t=>tks[t]?) (Hl.bx.take ids.length)=some bx') (hn:if kept then mapO (D.renL bi fun t=>tks[t]?) (Hl.bx.drop ids.length)=some nw else nw=[]):
    Ren γl (γ.whole γl ids tks kept) bi (fun t=>tks[t]?)∧γ.le (γ.whole γl ids tks kept)∧Frame γ H w (γ.whole γl ids tks kept) ⟨putAll H.bx ids bx'++nw,putAll H.tk tks (Hl.tk.take tks.length)⟩ w'∧
     Inv G (γ.whole γl ids tks kept) ⟨putAll H.bx ids bx'++nw,putAll H.tk tks (Hl.tk.take tks.length)⟩ w':=by
 have hlb:γl.boxes.length=Hl.bx.length:=J.lenB
 have hlt:γl.rows.length=Hl.tk.length:=J.lenT
 have hids:∀(j i:Nat),ids[j]? =some i→i<γ.boxes.length:=fun j i h=>by
  obtain⟨_,m2⟩:=mapO_get hbx
  obtain⟨y,hy,_⟩:=m2 j i h
  rw[I.lenB]
  split at hy
  ·rename_i cs hcs;exact(List.getElem?_eq_some_iff.1 hcs).1
  ·cases hy
 have htks:∀(j t:Nat),tks[j]? =some t→t<γ.rows.length:=fun j t h=>by
  obtain⟨_,m2⟩:=mapO_get htk
  obtain⟨y,hy,_⟩:=m2 j t h
  rw[I.lenT];exact(List.getElem?_eq_some_iff.1 hy).1
 have hold:∀(j i:Nat),ids[j]? =some i→∃b,γ.boxes[i]? =some b∧γl.boxes[j]? =some b:=fun j i h=>by
  have hi:=hids j i h
  refine⟨γ.boxes[i],List.getElem?_eq_getElem hi,L.boxes j _ (part_boxes.2 ⟨i,h,by rw[List.getElem?_eq_getElem hi];rfl⟩)⟩
 have hnew:∀(j b:Nat),ids.length≤j→γl.boxes[j]? =some b→w.heap.size≤b:=fun j b hj hb=>by
  rcases F.box b (List.mem_of_getElem? hb) with h |h
  ·obtain⟨k,hk⟩:=List.getElem?_of_mem h
   have hk':k<ids.length:=by have:=(List.getElem?_eq_some_iff.1 hk).1;simpa[Gh.part] using this
   have:=nodup_get J.nodup hb (L.boxes k b hk)
   omega
  ·exact h
 have hmemb:∀b,b∈(γ.whole γl ids tks kept).boxes→b∈γ.boxes∨(kept=true∧∃j,ids.length≤j∧γl.boxes[j]? =some b):=fun b h=>by
  simp only[Gh.whole] at h
  rcases List.mem_append.1 h with h |h
  ·exact .inl h
  ·cases kept with
   |false=>simp at h
   |true=>
    simp only[if_true] at h
    obtain⟨j,hj⟩:=List.getElem?_of_mem h
    rw[List.getElem?_drop] at hj
    exact .inr ⟨rfl,ids.length+j,by omega,hj⟩
 have hRow:∀(t:Nat) row f,(γ.whole γl ids tks kept).rows[t]? =some row→(putAll H.tk tks (Hl.tk.take tks.length))[t]? =some f→
     (∃j,tks[j]? =some t∧γl.rows[j]? =some row∧Hl.tk[j]? =some f)∨(t∉tks∧γ.rows[t]? =some row∧H.tk[t]? =some f):=fun t row f h1 h2=>by
  by_cases hin:t∈tks
  ·obtain⟨j,hj⟩:=List.getElem?_of_mem hin
   have hj':=(List.getElem?_eq_some_iff.1 hj).1
   have hl:=htks j t hj
   rw[whole_row_in hnt hj hl (by omega)] at h1
   rw[putAll_in tks H.tk _ j t hnt hj (by rw[←I.lenT];exact hl) (by simp;omega),List.getElem?_take,if_pos hj'] at h2
   exact .inl ⟨j,hj,h1,h2⟩
  ·simp only[Gh.whole] at h1
   rw[putAll_out tks _ _ t hin] at h1 h2
   exact .inr ⟨hin,h1,h2⟩
 have hFree:∀t b,Free (γ.whole γl ids tks kept) ⟨putAll H.bx ids bx'++nw,putAll H.tk tks (Hl.tk.take tks.length)⟩ t b→
     (∃j,tks[j]? =some t∧Free γl Hl j b)∨(t∉tks∧Free γ H t b):=fun t b h=>by
  obtain⟨row,f,cap,h1,h2,h3,h4⟩:=h
  rcases hRow t row f h1 h2 with⟨j,a1,a2,a3⟩ |⟨a1,a2,a3⟩
  ·exact .inl ⟨j,a1,row,f,cap,a2,a3,h3,h4⟩
  ·exact .inr ⟨a1,row,f,cap,a2,a3,h3,h4⟩
 have hFl:∀j b,Free γl Hl j b→(∃t,tks[j]? =some t∧Free γ H t b)∨w.heap.size≤b:=fun j b h=>by
  rcases F.fre j b h with h |h
  ·exact .inl (part_free htk I h)
  ·exact .inr h
 have hOwn:∀b,Owned (γ.part ids tks) ⟨bx,tk⟩ b→Owned γ H b:=fun b h=>by
  rcases h with h |⟨j,h⟩
  ·exact .inl (part_mem hbx I h)
  ·obtain⟨t,_,h⟩:=part_free htk I h
   exact .inr ⟨t,h⟩
 have hle:γ.le (γ.whole γl ids tks kept):=by
  refine⟨rfl,L.tys,L.mem,fun i b h=>?_,fun t r h=>?_⟩
  ·simp only[Gh.whole]
   rw[List.getElem?_append_left (List.getElem?_eq_some_iff.1 h).1];exact h
  ·by_cases hin:t∈tks
   ·obtain⟨j,hj⟩:=List.getElem?_of_mem hin
    have hl:=htks j t hj
    rw[whole_row_in hnt hj hl (by have:=(List.getElem?_eq_some_iff.1 hj).1;omega)]
    exact L.rows j r (part_rows.2 ⟨t,hj,by rw[h];rfl⟩)
   ·refine⟨r,?_,rfl,rfl,fun _ _ h=>h⟩
    simp only[Gh.whole]
    rw[putAll_out tks _ _ t hin];exact h
 have hR:Ren γl (γ.whole γl ids tks kept) bi (fun t=>tks[t]?):=by
  refine⟨L.base.symm,fun _ _ h=>h,fun _ _ _ h=>h,fun i j b h hb'=>?_,fun t u row h hr=>?_⟩
  ·rcases hbi i j h with⟨h1,h2⟩ |⟨h1,h2,h3⟩
   ·obtain⟨b',c1,c2⟩:=hold i j h2
    rw[hb'] at c2
    cases c2
    exact hle.boxes _ _ c1
   ·subst h1;subst h3
    simp only[Gh.whole,if_true]
    rw[←I.lenB,List.getElem?_append_right (by omega),List.getElem?_drop]
    have :ids.length+(γ.boxes.length+(i-ids.length)-γ.boxes.length)=i:=by omega
    rw[this];exact hb'
  ·have h:tks[t]? =some u:=h
   refine⟨row,?_,rfl,rfl,fun _ _ h=>h⟩
   rw[whole_row_in hnt h (htks t u h) (by have:=(List.getElem?_eq_some_iff.1 h).1;omega)]
   exact hr
 refine⟨hR,hle,⟨F.os,F.tape,F.output,F.size,fun b hb' ho=>F.blk b hb' fun h=>ho (hOwn b h),fun b o hb' ho=>F.mem b o hb' fun h=>ho (hOwn b h),fun b h=>?_,fun t b h=>?_⟩,?_⟩
 ·rcases hmemb b h with h |⟨_,j,h1,h2⟩
  ·exact .inl h
  ·exact .inr (hnew j b h1 h2)
 ·rcases hFree t b h with⟨j,h1,h2⟩ |⟨_,h2⟩
  ·rcases hFl j b h2 with⟨t',h3,h4⟩ |h3
   ·rw[h1] at h3;cases h3;exact .inl h4
   ·exact .inr h3
  ·exact .inl h2
 ·constructor
  ·exact Nat.le_trans I.size F.size
  ·exact J.tys
  ·intro t row n b cap h1 h2
   by_cases hin:t∈tks
   ·obtain⟨j,hj⟩:=List.getElem?_of_mem hin
    rw[whole_row_in hnt hj (htks j t hj) (by have:=(List.getElem?_eq_some_iff.1 hj).1;omega)] at h1
    have:=J.rowb j row n b cap h1 h2
    have hb:γl.base=γ.base:=L.base
    show γ.base≤b
    omega
   ·simp only[Gh.whole] at h1
    rw[putAll_out tks _ _ t hin] at h1
    exact I.rowb t row n b cap h1 h2
  ·exact J.mem
  ·exact J.globs
  ·simp only[Gh.whole,List.length_append,putAll_length,I.lenB]
   congr 1
   cases kept with
   |false=>simp only[Bool.false_eq_true,if_false] at hn⊢;simp[hn]
   |true=>
    simp only[if_true] at hn⊢
    rw[(mapO_get hn).1]
    simp[hlb]
  ·simp only[Gh.whole]
   rw[List.nodup_append]
   refine⟨I.nodup,?_,fun a ha b hb'=>?_⟩
   ·cases kept with
    |false=>simp
    |true=>simp only[if_true];exact(List.drop_sublist _ _).nodup J.nodup
   ·have h1:=I.lt_of_box ha
    cases kept with
    |false=>simp at hb'
    |true=>
     simp only[if_true] at hb'
     obtain⟨j,hj⟩:=List.getElem?_of_mem hb'
     rw[List.getElem?_drop] at hj
     have:=hnew _ _ (by omega) hj
     omega
  ·intro i b cs hb' hc
   have hc:(putAll H.bx ids bx'++nw)[i]? =some cs:=hc
   simp only[Gh.whole] at hb'
   by_cases hi:i<γ.boxes.length
   ·rw[List.getElem?_append_left hi] at hb'
    rw[List.getElem?_append_left (by rw[putAll_length,←I.lenB];exact hi)] at hc
    by_cases hin:i∈ids
    ·obtain⟨j,hj⟩:=List.getElem?_of_mem hin
     have hjl:=(List.getElem?_eq_some_iff.1 hj).1
     have hbl:bx'.length=ids.length:=by rw[(mapO_get hb).1];simp;omega
     rw[putAll_in ids H.bx bx' j i hni hj (by rw[←I.lenB];exact hi) (by omega)] at hc
     obtain⟨c0,h1,h2⟩:=mapO_back hb hc
     rw[List.getElem?_take,if_pos hjl] at h1
     obtain⟨b',c1,c2⟩:=hold j i hj
     rw[hb'] at c1
     cases c1
     obtain⟨vs,T,fr,q1,q2,q3,q4⟩:=J.box j b c0 c2 h1
     exact⟨vs,T,fr,(viewC_same (renL_map h2) _).trans q1,renB_rep hR q2 h2,fun hm=>renL_ones h2 (q3 ((renL_map h2).symm.trans hm)),fun hn=>q4 (renL_ne h2 hn)⟩
    ·rw[putAll_out ids _ _ i hin] at hc
     obtain⟨vs,T,fr,q1,q2,q3,q4⟩:=I.box i b cs hb' hc
     have hno:¬Owned (γ.part ids tks) ⟨bx,tk⟩ b:=by
      rintro (h |⟨j,h⟩)
      ·obtain⟨j,hj⟩:=List.getElem?_of_mem h
       obtain⟨i',h1,h2⟩:=part_box_of hbx I hj
       have:=nodup_get I.nodup hb' h2
       subst this
       exact hin (List.mem_of_getElem? h1)
      ·obtain⟨t,_,row,f,cap,h1,h2,h3,h4⟩:=part_free htk I h
       obtain⟨r,p1,p2⟩:=I.row t row f h1 h2
       rw[h3] at p1
       cases p1
       obtain⟨_,_,_,_,_,_,_,hnb⟩:=p2.2 h4
       exact hnb (List.mem_of_getElem? hb')
     have hbb:=List.mem_of_getElem? hb'
     rcases(F.blk b (I.lt_of_box hbb) hno).2 with e |⟨us,U,fr0,fr1,e1,e2,e3⟩
     ·exact⟨vs,T,fr,by rw[e];exact q1,q2.mono hle,q3,q4⟩
     ·have hm:isMapC cs=false:=by
       cases hm:isMapC cs with
       |false=>rfl
       |true=>rw[e1] at q1;simp[viewC,hm] at q1
      rw[viewC_of hm] at q1
      rw[q1] at e1
      cases e1
      refine⟨vs,T,fr1,(viewC_of hm _).trans e2,q2.mono hle,q3,fun hn k hk hk2 hf=>?_⟩
      rcases e3 k hk2 hf with q |q
      ·exact q4 hn k hk hk2 q
      ·exact q ((F.mem b k (I.lt_of_box hbb) hno).trans (I.boxmem b k hbb))
   ·rw[List.getElem?_append_right (by omega)] at hb'
    rw[List.getElem?_append_right (by rw[putAll_length,←I.lenB];omega),putAll_length,←I.lenB] at hc
    cases kept with
    |false=>simp at hb'
    |true=>
     simp only[if_true] at hb' hn
     rw[List.getElem?_drop] at hb'
     obtain⟨c0,h1,h2⟩:=mapO_back hn hc
     rw[List.getElem?_drop] at h1
     obtain⟨vs,T,fr,q1,q2,q3,q4⟩:=J.box _ b c0 hb' h1
     exact⟨vs,T,fr,(viewC_same (renL_map h2) _).trans q1,renB_rep hR q2 h2,fun hm=>renL_ones h2 (q3 ((renL_map h2).symm.trans hm)),fun hn=>q4 (renL_ne h2 hn)⟩
  ·intro b o hb'
   by_cases hin:b∈γl.boxes
   ·exact J.boxmem b o hin
   ·rcases hmemb b hb' with h |⟨_,j,h1,h2⟩
    ·have hno:¬Owned (γ.part ids tks) ⟨bx,tk⟩ b:=by
      rintro (h' |⟨j,h'⟩)
      ·obtain⟨k,hk⟩:=List.getElem?_of_mem h'
       exact hin (List.mem_of_getElem? (L.boxes k b hk))
      ·obtain⟨t,_,row,f,cap,h1,h2,h3,h4⟩:=part_free htk I h'
       obtain⟨r,p1,p2⟩:=I.row t row f h1 h2
       rw[h3] at p1
       cases p1
       obtain⟨_,_,_,_,_,_,_,hnb⟩:=p2.2 h4
       exact hnb h
     have:=F.mem b o (I.lt_of_box h) hno
     show γl.mem b o=none
     rw[this]
     exact I.boxmem b o h
    ·exact(hin (List.mem_of_getElem? h2)).elim
  ·simp[Gh.whole,putAll_length,I.lenT]
  ·intro t row f h1 h2
   rcases hRow t row f h1 h2 with⟨j,a1,a2,a3⟩ |⟨a1,a2,a3⟩
   ·obtain⟨r,q1,q2⟩:=J.row j row f a2 a3
    refine⟨r,q1,q2.keep (fun _ _ h=>h) (fun _ _ _ _=>rfl) (fun _ _ _ _ _=>rfl) (fun b cap hr hlt hnb hb'=>?_)⟩
    rcases hmemb b hb' with h |⟨_,k,_,h⟩
    ·rcases hFl j b ⟨row,f,cap,a2,a3,hr▸q1,hlt⟩ with⟨t',_,row',f',cap',c1,c2,c3,c4⟩ |h'
     ·obtain⟨r',p1,p2⟩:=I.row t' row' f' c1 c2
      rw[c3] at p1
      cases p1
      obtain⟨_,_,_,_,_,_,_,hnb'⟩:=p2.2 c4
      exact hnb' h
     ·have:=I.lt_of_box h;omega
    ·exact hnb (List.mem_of_getElem? h)
   ·obtain⟨r,q1,q2⟩:=I.row t row f a2 a3
    have hno:∀b cap,r=some (b,cap)→f<cap→¬Owned (γ.part ids tks) ⟨bx,tk⟩ b:=by
     intro b cap hr hlt
     subst hr
     obtain⟨_,_,_,_,_,_,_,hnb⟩:=q2.2 hlt
     rintro (h |⟨j,h⟩)
     ·exact hnb (part_mem hbx I h)
     ·obtain⟨t',h3,h4⟩:=part_free htk I h
      have:=I.free t t' b ⟨row,f,cap,a2,a3,q1,hlt⟩ h4
      subst this
      exact a1 (List.mem_of_getElem? h3)
    have hlt':∀b cap,r=some (b,cap)→f<cap→b<w.heap.size:=fun b cap hr hlt=>I.lt_of_free ⟨row,f,cap,a2,a3,hr▸q1,hlt⟩
    refine⟨r,q1,q2.sim L.tys (fun b cap hr hlt=>(F.blk b (hlt' b cap hr hlt) (hno b cap hr hlt)).2) (fun b cap hr hlt o=>F.mem b o (hlt' b cap hr hlt) (hno b cap hr hlt)) (fun b cap hr hlt hnb hb'=>?_)⟩
    rcases hmemb b hb' with h |⟨_,k,h1',h⟩
    ·exact hnb h
    ·have:=hnew k b h1' h
     have:=hlt' b cap hr hlt
     omega
  ·intro t row f h1 h2
   rcases hRow t row f h1 h2 with⟨j,a1,a2,a3⟩ |⟨a1,a2,a3⟩
   ·exact J.rowmax j row f a2 a3
   ·exact I.rowmax t row f a2 a3
  ·intro t t' b h h'
   rcases hFree t b h with⟨j,h1,h2⟩ |⟨h1,h2⟩
   ·rcases hFree t' b h' with⟨j',h3,h4⟩ |⟨h3,h4⟩
    ·have:=J.free j j' b h2 h4
     subst this
     rw[h1] at h3;cases h3;rfl
    ·rcases hFl j b h2 with⟨t2,h5,h6⟩ |h5
     ·have:=I.free t2 t' b h6 h4
      subst this
      exact(h3 (List.mem_of_getElem? h5)).elim
     ·have:=I.lt_of_free h4;omega
   ·rcases hFree t' b h' with⟨j',h3,h4⟩ |⟨h3,h4⟩
    ·rcases hFl j' b h4 with⟨t2,h5,h6⟩ |h5
     ·have:=I.free t t2 b h2 h6
      subst this
      exact(h1 (List.mem_of_getElem? h5)).elim
     ·have:=I.lt_of_free h2;omega
    ·exact I.free t t' b h2 h4
end
end Go.Vs
namespace Go.Vs
variable {P : Program} {W : World} {G : Nat → Option (List PD)} {γ : Gh} {H : Hp} {w : World} {env : Env} {a : Act} {o : Oper}
structure InvS (W:World) (G:Nat→Option (List PD)) (γ:Gh) (H:Hp) (w:World):Prop extends Inv G γ H w where
 bse:γ.base=W.heap.size
 blw:RowKit.Below W.heap.size W w
 own:∀b,Owned γ H b→W.heap.size≤b
theorem InvS.up{γ':Gh}{H':Hp}{w':World}(I:InvS W G γ H w)(L:γ.le γ')(F:Frame γ H w γ' H' w')(J:Inv G γ' H' w'):InvS W G γ' H' w':=by
 have hb:=I.blw.size
 refine⟨J,L.base.trans I.bse,⟨F.os.trans I.blw.os,F.tape.trans I.blw.tape,F.output.trans I.blw.output,Nat.le_trans hb F.size,fun k hk=>?_⟩,fun b h=>?_⟩
 ·have hn:¬Owned γ H k:=fun h=>by have:=I.own k h;omega
  have hk2:k<W.heap.size:=hk
  exact((F.blk k (by omega) hn).1 (by rw[I.bse];exact hk2)).trans (I.blw.block k hk)
 ·rcases F.own b h with q |q
  ·exact I.own b q
  ·omega
def Ends'(γ:Gh)(r:Res)(e:Ending):Prop:=
 match r with
 | .val d=>∃v,e= .returned v∧RepD γ v d
 | .pan d=>∃v,e= .panicked [{v,recovered:=false}]∧RepD γ v d
def Enters(P:Program)(f:Nat):Prop:=∃fn,P.funcs[f]? =some fn∧(fn.name== "runtime.NumGoroutine")=false∧fn.body.isNone=false
def Meets(P:Program)(W:World)(G:Nat→Option (List PD))(f:Nat)(args:List D)(H:Hp)(r:Res)(H':Hp):Prop:=
 Enters P f∧∀γ w vs,InvS W G γ H w→RepL γ vs args→Calls P f vs w fun e w'=>∃γ',γ.le γ'∧Frame γ H w γ' H' w'∧InvS W G γ' H' w'∧Ends' γ' r e
def Sound(P:Program)(W:World)(G:Nat→Option (List PD))(c:CallR):Prop:=∀f args H r H',c f args H=some (r,H')→Meets P W G f args H r H'
theorem resRen{γ1 γ2:Gh}{bi ti:Nat→Option Nat}(R:Ren γ1 γ2 bi ti){r r':Res}(h:r.ren bi ti=some r'){e:Ending}(he:Ends' γ1 r e):Ends' γ2 r' e:=by
 cases r with
 |val d=>
  obtain⟨d',hd,rfl⟩:=Option.map_eq_some_iff.1 h
  obtain⟨v,rfl,hv⟩:=he
  exact⟨v,rfl,ren_rep R hv hd⟩
 |pan d=>
  obtain⟨d',hd,rfl⟩:=Option.map_eq_some_iff.1 h
  obtain⟨v,rfl,hv⟩:=he
  exact⟨v,rfl,ren_rep R hv hd⟩
theorem part_invS{ids tks:List Nat}{bx:List (List D)}{tk:List Nat}(hni:ids.Nodup)(hnt:tks.Nodup)(hbx:mapO (fun i=>match H.bx[i]? with |some cs=>D.renL (idx ids) (idx tks) cs |none=>none) ids=some bx)(htk:mapO (fun t=>H.tk[t]?) tks=some tk)(I:InvS W G γ H w):InvS W G (γ.part ids tks) ⟨bx,tk⟩ w:=by
 refine⟨part_inv hni hnt hbx htk I.toInv,I.bse,I.blw,fun b h=>I.own b ?_⟩
 rcases h with h |⟨j,h⟩
 ·exact .inl (part_mem hbx I.toInv h)
 ·obtain⟨t,_,h⟩:=part_free htk I.toInv h
  exact .inr ⟨t,h⟩
theorem callD_gen{C:Array Value→World→(Ending→World→Prop)→Prop}(Cm:∀vs w (R R':Ending→World→Prop),C vs w R→(∀e w',R e w'→R' e w')→C vs w R'){c:CallR}{f:Nat}
    (S:∀args H r H',c f args H=some (r,H')→∀γ w vs,InvS W G γ H w→RepL γ vs args→C vs w fun e w'=>∃γ',γ.le γ'∧Frame γ H w γ' H' w'∧InvS W G γ' H' w'∧Ends' γ' r e)
    {args:List D} {H:Hp} {r:Res} {H':Hp} (h:callD c f args H=some (r,H')):∀γ w vs,InvS W G γ H w→RepL γ vs args→C vs w fun e w'=>∃γ',γ.le γ'∧Frame γ H w γ' H' w'∧InvS W G γ' H' w'∧Ends' γ' r e:=by
 unfold callD at h
 dsimp only at h
 generalize hids:reach H H.bx.length (ins [] (D.refsL args))=ids at h
 generalize htks:ins [] (D.toksL args++boxToks H ids)=tks at h
 split at h
 ·rename_i hn
  have hni:=nodupB_iff (Bool.and_eq_true_iff.1 hn).1
  have hnt:=nodupB_iff (Bool.and_eq_true_iff.1 hn).2
  split at h
  ·rename_i as bx tk h1 h2 h3
   split at h
   ·rename_i rl Hl hc
    intro γ w vs I r0
    refine Cm _ _ _ _ (S as ⟨bx,tk⟩ rl Hl hc (γ.part ids tks) w vs (part_invS hni hnt h2 h3 I) (renL_rep part_ren r0 h1)) ?_
    rintro e w' ⟨γl,L,F,J,E⟩
    unfold back at h
    split at h
    ·rename_i bxc tkc hb1 hb2
     obtain⟨m1,rfl⟩:=firstN_some hb1
     obtain⟨m2,rfl⟩:=firstN_some hb2
     dsimp only at h
     split at h
     ·rename_i r' bx' q1 q2
      cases h
      obtain⟨R,w1,w2,w3⟩:=whole_ok hni hnt h2 h3 I.toInv L F J.toInv false (bi:=fun i=>ids[i]?) m1 m2 (fun i j hij=>.inl ⟨(List.getElem?_eq_some_iff.1 hij).1,hij⟩) q2 (nw:=[]) rfl
      simp only[List.append_nil] at w2 w3
      exact⟨_,w1,w2,I.up w1 w2 w3,resRen R q1 E⟩
     ·split at h
      ·rename_i r' bx' n0 nw q1 q2 q3
       cases h
       obtain⟨R,w1,w2,w3⟩:=whole_ok hni hnt h2 h3 I.toInv L F J.toInv true (bi:=fun i=>if i<ids.length then ids[i]? else some (H.bx.length+(i-ids.length))) m1 m2 (fun i j hij=>by
        split at hij
        ·rename_i hlt;exact .inl ⟨hlt,hij⟩
        ·rename_i hge;cases hij;exact .inr ⟨rfl,by omega,rfl⟩) q2 (nw:=n0::nw) q3
       exact⟨_,w1,w2,I.up w1 w2 w3,resRen R q1 E⟩
      ·cases h
    ·cases h
   ·cases h
  ·cases h
 ·cases h
theorem callD_enters{c:CallR}(S:Sound P W G c){f:Nat}{args:List D}{H:Hp}{r:Res}{H':Hp}(h:callD c f args H=some (r,H')):Enters P f:=by
 unfold callD at h
 dsimp only at h
 split at h
 ·split at h
  ·split at h
   ·rename_i hc
    exact(S f _ _ _ _ hc).1
   ·cases h
  ·cases h
 ·cases h
theorem callD_sound{c:CallR}(S:Sound P W G c){f:Nat}{args:List D}{H:Hp}{r:Res}{H':Hp}(h:callD c f args H=some (r,H')):Meets P W G f args H r H':=
 ⟨callD_enters S h,callD_gen (C:=fun vs w R=>Calls P f vs w R) (fun _ _ _ _ h q=>h.mono q) (fun as H r H' hc=>(S f as H r H' hc).2) h⟩
theorem run_enter{f:Nat}(h:Enters P f)(args:Array Value)(w:World):(callFunc f args).run P w= .ok (.enter f args) w:=by
 obtain⟨fn,h1,h2,h3⟩:=h
 unfold callFunc
 simp only[Sem.run_bind,run_program,Result.andThen_ok,h1,h2,h3,Bool.false_eq_true,if_false,Sem.run_pure]
theorem RepL.append{γ:Gh}{a b:Array Value}{x y:List D}(h:RepL γ a x)(k:RepL γ b y):RepL γ (a++b) (x++y):=by
 refine⟨by simp[h.1,k.1],fun i d hd=>?_⟩
 have h1:=h.1
 by_cases hi:i<x.length
 ·rw[List.getElem?_append_left hi] at hd
  have:=h.2 i d hd
  have e:(a++b).getD i undef=a.getD i undef:=by simp[Array.getD_eq_getD_getElem?,Array.getElem?_append,h1,hi]
  rw[e];exact this
 ·rw[List.getElem?_append_right (by omega)] at hd
  have:=k.2 _ d hd
  have e:(a++b).getD i undef=b.getD (i-x.length) undef:=by
   simp only[Array.getD_eq_getD_getElem?]
   rw[Array.getElem?_append_right (by omega),h1]
  rw[e];exact this
theorem call_wp{c:CallR}(S:Sound P W G c)(I:InvS W G γ H w)(E:EnvRep γ env a.tmps){f:Operand}{args:Array Operand}{ts:Array TypeId}(ho:o.op= .call {callee:=.value f,args,argTypes:=ts}){f':Opd}{args':List Opd}(hf:opdOf f=some f')
    (ha:mapO opdOf args.toList=some args') {r:Res} {H':Hp} (he:callV c (f'.ev env) (args'.map (·.ev env)) H=some (r,H')) {K:Act→World→Prop} {Q:Exit→Act→World→Prop}
    (hK:∀v γ' w' d,r= .val d→γ.le γ'→Frame γ H w γ' H' w'→InvS W G γ' H' w'→RepD γ' v d→K (a.put o.dst v) w')
    (hQ:∀v γ' w' d,r= .pan d→γ.le γ'→Frame γ H w γ' H' w'→InvS W G γ' H' w'→RepD γ' v d→Q (.panic [{v,recovered:=false}]) a w'):o.wp P a w K Q:=by
 have hfr:=opdOf_rep E hf
 have har:=opds_rep E ha
 unfold callV at he
 split at he
 ·rename_i g first cap hg
  rw[hg] at hfr
  obtain⟨as,cs,hv,r1,r2⟩:=hfr.fn_inv
  obtain⟨hent,hm⟩:=callD_sound S he
  have hargs:RepL γ (as++args.map a.eval++cs) (first++args'.map (·.ev env)++cap):=(r1.append har).append r2
  have hrun:(execOp a.eval o).run P w= .ok (.enter g (as++args.map a.eval++cs)) w:=by
   simp[execOp,ho,resolve,hv,Deferred.ofValue,invoke,run_enter hent]
  unfold Oper.wp
  rw[hrun,Oper.upon_enter]
  refine(hm γ w _ I hargs).mono ?_
  rintro e w' ⟨γ',L,F,J,En⟩
  cases r with
  |val d=>
   obtain⟨v,rfl,hv'⟩:=En
   exact hK v γ' w' d rfl L F J hv'
  |pan d=>
   obtain⟨v,rfl,hv'⟩:=En
   exact hQ v γ' w' d rfl L F J hv'
 ·cases he
structure OpOf (P:Program) (ops:Array Oper) (nt:Nat) (o:Oper) (so:SO):Prop where
 k:∃hint,kHint P o hint=so.k
 dst:so.dst=o.dst
 lt:∀t,o.dst=some t→t<nt
 g:so.g=match o.guard with
  |none=>none
  |some (j,want)=>match(ops[j]?).bind (·.dst) with
   |some t=>some (t,want)
   |none=>none
 gd:∀j want,o.guard=some (j,want)→((ops[j]?).bind (·.dst)).isSome=true
theorem callK_some{op:Op}{r:Option SK}(h:callK op=some r):(∃f0 as0 ts,op= .call {callee:=.value f0,args:=as0,argTypes:=ts}∧
    r=(match opdOf f0,mapO opdOf as0.toList with |some g,some xs=>some (.call g xs) |_,_=>none))∨∃x,op= .panic x∧r=(opdOf x).map .panic:=by
 cases op with
 |call c=>
  obtain⟨callee,as,ts⟩:=c
  cases callee with
  |value g=>
   refine .inl ⟨g,as,ts,rfl,?_⟩
   simp only[callK] at h
   split at h<;>cases h<;>simp_all
  |_=>cases h
 |panic x=>
  simp only[callK,Option.some.injEq] at h
  exact .inr ⟨x,rfl,h.symm⟩
 |_=>cases h
theorem evKC_plain{c:CallR}{k:SK}(hk:k.isCall=false):evKC c G env H k=match evK G env H k with |some (d,H')=>some (.val d,H') |none=>none:=by
 cases k<;>first |rfl |cases hk
theorem kHint_call{h:Option SK}{k:SK}(hc:k.isCall=true)(hk:kHint P o h=k):kOp P o.op=k:=by
 unfold kHint at hk
 split at hk
 ·unfold kRaw at hk
  split at hk
  ·split at hk
   ·subst hk;cases hc
   ·exact hk
  ·split at hk
   ·subst hk;cases hc
   ·exact hk
  ·split at hk
   ·subst hk;cases hc
   ·exact hk
  ·exact hk
 ·subst hk;cases hc
theorem panic_wp(I:InvS W G γ H w)(E:EnvRep γ env a.tmps){x:Operand}(ho:o.op= .panic x){y:Opd}(hy:opdOf x=some y){r:Res}{H':Hp}(he:panicD (y.ev env) H=some (r,H')){K:Act→World→Prop}{Q:Exit→Act→World→Prop}
    (hQ:∀v γ' w' d,r= .pan d→γ.le γ'→Frame γ H w γ' H' w'→InvS W G γ' H' w'→RepD γ' v d→Q (.panic [{v,recovered:=false}]) a w'):o.wp P a w K Q:=by
 have hr:=opdOf_rep E hy
 have key:∃t v,a.eval x= .iface t v∧r= .pan (y.ev env)∧H'=H:=by
  unfold panicD at he
  split at he
  ·rename_i t y' hd
   rw[hd] at hr
   have:=hr.p_inv
   generalize a.eval x=v at this
   cases this with
   |iface t v z hz=>cases he;exact⟨t,v,rfl,by rw[hd],rfl⟩
  ·rename_i t y' hd
   rw[hd] at hr
   generalize a.eval x=v at hr
   cases hr with
   |ifc t v d hd'=>cases he;exact⟨t,v,rfl,by rw[hd],rfl⟩
  ·cases he
 obtain⟨t,v,hv,rfl,rfl⟩:=key
 have hx:(execOp a.eval o).run P w= .halt (.panic (.iface t v)) w:=by
  unfold execOp
  rw[ho]
  dsimp only
  rw[hv]
  rfl
 unfold Oper.wp
 rw[hx]
 exact hQ _ γ w _ rfl (.refl γ) (.refl γ H' w) I (by rw[←hv];exact hr)
theorem op_wp{c:CallR}(S:Sound P W G c)(I:InvS W G γ H w)(E:EnvRep γ env a.tmps){k:SK}(hk:∃hint,kHint P o hint=k){r:Res}{H':Hp}(he:evKC c G env H k=some (r,H')){K:Act→World→Prop}{Q:Exit→Act→World→Prop}
    (hK:∀v γ' w' d,r= .val d→γ.le γ'→Frame γ H w γ' H' w'→InvS W G γ' H' w'→RepD γ' v d→K (a.put o.dst v) w')
    (hQ:∀v γ' w' d,r= .pan d→γ.le γ'→Frame γ H w γ' H' w'→InvS W G γ' H' w'→RepD γ' v d→Q (.panic [{v,recovered:=false}]) a w'):o.wp P a w K Q:=by
 obtain⟨hint,hk⟩:=hk
 by_cases hc:k.isCall=true
 ·have hkop:=kHint_call hc hk
  unfold kOp at hkop
  split at hkop
  ·rename_i r0 hr0
   rcases callK_some hr0 with⟨f0,as0,ts,ho,hr⟩ |⟨x,ho,hr⟩
   ·subst hr
    split at hkop
    ·rename_i g' xs' h1 h2
     simp only[Option.getD_some] at hkop
     subst hkop
     exact call_wp S I E ho h1 h2 he hK hQ
    ·simp only[Option.getD_none] at hkop
     subst hkop
     cases hc
   ·subst hr
    cases hx:opdOf x with
    |none=>
     rw[hx] at hkop
     simp only[Option.map_none,Option.getD_none] at hkop
     subst hkop
     cases hc
    |some y=>
     rw[hx] at hkop
     simp only[Option.map_some,Option.getD_some] at hkop
     subst hkop
     exact panic_wp I E ho hx he hQ
  ·split at hkop
   ·rename_i k' hk'
    split at hkop
    ·subst hkop;cases hc
    ·rename_i hcc
     subst hkop
     exact absurd hc hcc
   ·subst hkop;cases hc
 ·have hc:k.isCall=false:=by simpa using hc
  rw[evKC_plain hc] at he
  split at he
  ·rename_i d H1 hd
   cases he
   obtain⟨v,w',γ',hrun,L,F,J0,V⟩:=op_done I.toInv E hk hc hd
   have J:=I.up L F J0
   have hk2:=hK v γ' w' d rfl L F J V
   unfold Oper.wp
   rcases hrun with h |⟨h,rfl⟩
   ·rw[h];exact hk2
   ·rw[h];exact hk2
  ·cases he
theorem EnvRep.put'{γ:Gh}{env:Env}{nt:Nat}(E:EnvRep γ env a.tmps)(hn:a.tmps.size=nt){dst:Option Nat}(hd:∀t,dst=some t→t<nt){v:Value}{d:D}(h:RepD γ v d):
    EnvRep γ (Go.Vs.put dst d env) (a.put dst v).tmps∧(a.put dst v).tmps.size=nt∧(a.put dst v).defers=a.defers:=by
 cases dst with
 |none=>exact⟨E,hn,rfl⟩
 |some t=>exact⟨E.put (by rw[hn];exact hd t rfl) h,by simp[Act.put,hn],rfl⟩
theorem guard_ok{ops:Array Oper}{nt:Nat}{so:SO}(h:OpOf P ops nt o so)(E:EnvRep γ env a.tmps)(hn:a.tmps.size=nt)(hlt:∀(j:Nat) o' t,ops[j]? =some o'→o'.dst=some t→t<nt){b:Bool}(hg:evGuard env so.g=some b):
    Region.wanted o (yielded ops a.tmps)=b:=by
 have h1:=h.g
 have h2:=h.gd
 cases hgd:o.guard with
 |none=>
  rw[hgd] at h1
  rw[h1] at hg
  simp only[evGuard] at hg
  cases hg
  simp[Region.wanted,hgd]
 |some jw=>
  obtain⟨j,want⟩:=jw
  rw[hgd] at h1
  obtain⟨t,ht⟩:=Option.isSome_iff_exists.1 (h2 j want hgd)
  simp only[ht] at h1
  rw[h1] at hg
  simp only[evGuard] at hg
  have hr:=E t
  have htl:t<a.tmps.size:=by
   rw[hn]
   obtain⟨o',ho',hd⟩:=Option.bind_eq_some_iff.1 ht
   exact hlt j o' t ho' hd
  have hval:a.tmps[t]? =some (a.tmps.getD t undef):=by simp[Array.getD_eq_getD_getElem?,htl]
  simp only[Region.wanted,hgd,yielded,ht,Option.bind_some,hval]
  split at hg
  ·rename_i bb hb
   rw[hb] at hr
   rw[hr.p_inv.bool_inv]
   cases hg
   cases bb<;>cases want<;>rfl
  ·rename_i hb
   rw[hb] at hr
   generalize a.tmps.getD t undef=v at hr
   cases hr
   cases hg
   rfl
  ·cases hg
theorem ops_wpR{c:CallR}(S:Sound P W G c){ops:Array Oper}{nt:Nat}(hlt:∀(j:Nat) o' t,ops[j]? =some o'→o'.dst=some t→t<nt){Q:Exit→Act→World→Prop}(l2:List Oper):
    ∀(l:List Oper) (sl:List SO) (γ:Gh) (env:Env) (H:Hp) (a:Act) (w:World),l.length=sl.length→(∀(i:Nat) o so,l[i]? =some o→sl[i]? =some so→OpOf P ops nt o so)→
     InvS W G γ H w→EnvRep γ env a.tmps→a.tmps.size=nt→∀r,evOps c G sl env H=some r→
     (∀γ' env' H' a' w',r= .ok env' H'→γ.le γ'→Frame γ H w γ' H' w'→InvS W G γ' H' w'→EnvRep γ' env' a'.tmps→a'.tmps.size=nt→a'.defers=a.defers→wpList P ops Q l2 a' w')→
     (∀γ' d env' H' v a' w',r= .pan d env' H'→γ.le γ'→Frame γ H w γ' H' w'→InvS W G γ' H' w'→RepD γ' v d→EnvRep γ' env' a'.tmps→a'.tmps.size=nt→a'.defers=a.defers→Q (.panic [{v,recovered:=false}]) a' w')→
     wpList P ops Q (l++l2) a w
 |[],sl,γ,env,H,a,w,hl,_,I,E,hn,r,he,hok,_=>by
  cases sl with
  |cons=>simp at hl
  |nil=>
   simp only[evOps] at he
   cases he
   exact hok γ env H a w rfl (.refl γ) (.refl γ H w) I E hn rfl
 |o::l,sl,γ,env,H,a,w,hl,hof,I,E,hn,r,he,hok,hpan=>by
  cases sl with
  |nil=>simp at hl
  |cons so sl=>
   have ho:=hof 0 o so rfl rfl
   have hrest:∀(i:Nat) o so',l[i]? =some o→sl[i]? =some so'→OpOf P ops nt o so':=fun i o so' h1 h2=>hof (i+1) o so' (by simpa using h1) (by simpa using h2)
   have hll:l.length=sl.length:=by simpa using hl
   simp only[evOps] at he
   split at he
   ·rename_i hg
    have hw:=guard_ok ho E hn hlt hg
    refine wpList_step fun K hK=>?_
    rw[if_pos hw]
    split at he
    ·rename_i d H1 hd
     refine op_wp S I E ho.k hd (fun v γ' w' d' hr L F J V=>?_) (fun v γ' w' d' hr _ _ _ _=>by cases hr)
     cases hr
     obtain⟨p1,p2,p3⟩:=(E.mono L).put' hn (dst:=o.dst) ho.lt V
     rw[ho.dst] at he
     refine hK _ _ (ops_wpR S hlt l2 l sl γ' _ _ _ w' hll hrest J p1 p2 r he (fun γ2 env' H' a' w2 h1 h2 h3 h4 h5 h6 h7=>hok γ2 env' H' a' w2 h1 (L.trans h2) (F.trans L.base h3) h4 h5 h6 (h7.trans p3)) (fun γ2 d2 e2 H' v2 a' w2 h1 h2 h3 h4 h5 h6 h7 h8=>hpan γ2 d2 e2 H' v2 a' w2 h1 (L.trans h2) (F.trans L.base h3) h4 h5 h6 h7 (h8.trans p3)))
    ·rename_i d H1 hd
     cases he
     exact op_wp S I E ho.k hd (fun v γ' w' d' hr _ _ _ _=>by cases hr) (fun v γ' w' d' hr L F J V=>by cases hr;exact hpan γ' d env H1 v a w' rfl L F J V (E.mono L) hn rfl)
    ·cases he
   ·rename_i hg
    have hw:=guard_ok ho E hn hlt hg
    refine wpList_step fun K hK=>?_
    rw[if_neg (by simp[hw])]
    obtain⟨p1,p2,p3⟩:=E.put' hn (dst:=o.dst) ho.lt (v:=undef) RepD.undef
    rw[ho.dst] at he
    exact hK _ _ (ops_wpR S hlt l2 l sl γ _ _ _ w hll hrest I p1 p2 r he (fun γ2 env' H' a' w2 h1 h2 h3 h4 h5 h6 h7=>hok γ2 env' H' a' w2 h1 h2 h3 h4 h5 h6 (h7.trans p3)) (fun γ2 d2 e2 H' v2 a' w2 h1 h2 h3 h4 h5 h6 h7 h8=>hpan γ2 d2 e2 H' v2 a' w2 h1 h2 h3 h4 h5 h6 h7 (h8.trans p3)))
   ·cases he
theorem ops_wp{c:CallR}(S:Sound P W G c){ops:Array Oper}{nt:Nat}(hlt:∀(j:Nat) o' t,ops[j]? =some o'→o'.dst=some t→t<nt){Q:Exit→Act→World→Prop}(l:List Oper)(sl:List SO)(γ:Gh)(env:Env)(H:Hp)(a:Act)(w:World)(hl:l.length=sl.length)
    (hof:∀(i:Nat) o so,l[i]? =some o→sl[i]? =some so→OpOf P ops nt o so) (I:InvS W G γ H w) (E:EnvRep γ env a.tmps) (hn:a.tmps.size=nt) (r:RO) (he:evOps c G sl env H=some r)
    (hok:∀γ' env' H' a' w',r= .ok env' H'→γ.le γ'→Frame γ H w γ' H' w'→InvS W G γ' H' w'→EnvRep γ' env' a'.tmps→a'.tmps.size=nt→a'.defers=a.defers→Q .normal a' w')
    (hpan:∀γ' d env' H' v a' w',r= .pan d env' H'→γ.le γ'→Frame γ H w γ' H' w'→InvS W G γ' H' w'→RepD γ' v d→EnvRep γ' env' a'.tmps→a'.tmps.size=nt→a'.defers=a.defers→Q (.panic [{v,recovered:=false}]) a' w'):
    wpList P ops Q l a w:=by
 have:=ops_wpR S hlt (Q:=Q) [] l sl γ env H a w hl hof I E hn r he (fun γ' env' H' a' w' h1 h2 h3 h4 h5 h6 h7=>wpList_nil (hok γ' env' H' a' w' h1 h2 h3 h4 h5 h6 h7)) hpan
 rwa [List.append_nil] at this
variable {P : Program} {W : World} {G : Nat → Option (List PD)}
theorem Opd.ev_congr{e e':Env}{x:Opd}(h:∀t∈x.slots,e.get t=e'.get t):x.ev e=x.ev e':=by
 cases x with
 |t i=>exact h i (by simp[Opd.slots])
 |c d=>rfl
theorem evs_congr{e e':Env}{xs:List Opd}(h:∀t∈xs.flatMap Opd.slots,e.get t=e'.get t):xs.map (·.ev e)=xs.map (·.ev e'):=
 List.map_congr_left fun x hx=>Opd.ev_congr fun t ht=>h t (List.mem_flatMap.2 ⟨x,hx,ht⟩)
theorem evK_congr{e e':Env}{H:Hp}{k:SK}(h:∀t∈k.slots,e.get t=e'.get t):evK G e H k=evK G e' H k:=by
 have two:∀x y:Opd,(∀t∈x.slots++y.slots,e.get t=e'.get t)→x.ev e=x.ev e'∧y.ev e=y.ev e':=fun x y h=>
  ⟨Opd.ev_congr fun t ht=>h t (by simp[ht]),Opd.ev_congr fun t ht=>h t (by simp[ht])⟩
 cases k<;>simp only[SK.slots] at h<;>simp only[evK]
 case move=>rw[Opd.ev_congr h]
 case box=>rw[Opd.ev_congr h]
 case load=>rw[Opd.ev_congr h]
 case nilCheck=>rw[Opd.ev_congr h]
 case un=>rw[Opd.ev_congr h]
 case faddr=>rw[Opd.ev_congr h]
 case field=>rw[Opd.ev_congr h]
 case extract=>rw[Opd.ev_congr h]
 case len=>rw[Opd.ev_congr h]
 case conv=>rw[Opd.ev_congr h]
 case strid=>rw[Opd.ev_congr h]
 case toBytes=>rw[Opd.ev_congr h]
 case toStr=>rw[Opd.ev_congr h]
 case iface=>rw[Opd.ev_congr h]
 case sdata=>rw[Opd.ev_congr h]
 case boxB=>rw[Opd.ev_congr h]
 case cap=>rw[Opd.ev_congr h]
 case tassert=>rw[Opd.ev_congr h]
 case makesl=>obtain⟨h1,h2⟩:=two _ _ h;rw[h1,h2]
 case appendm=>obtain⟨h1,h2⟩:=two _ _ h;rw[h1,h2]
 case ustr=>obtain⟨h1,h2⟩:=two _ _ h;rw[h1,h2]
 case copy=>obtain⟨h1,h2⟩:=two _ _ h;rw[h1,h2]
 case store=>obtain⟨h1,h2⟩:=two _ _ h;rw[h1,h2]
 case bin=>obtain⟨h1,h2⟩:=two _ _ h;rw[h1,h2]
 case eqk=>obtain⟨h1,h2⟩:=two _ _ h;rw[h1,h2]
 case eqs=>obtain⟨h1,h2⟩:=two _ _ h;rw[h1,h2]
 case iaddr=>obtain⟨h1,h2⟩:=two _ _ h;rw[h1,h2]
 case index=>obtain⟨h1,h2⟩:=two _ _ h;rw[h1,h2]
 case append=>obtain⟨h1,h2⟩:=two _ _ h;rw[h1,h2]
 case minmax=>obtain⟨h1,h2⟩:=two _ _ h;rw[h1,h2]
 case mapget=>obtain⟨h1,h2⟩:=two _ _ h;rw[h1,h2]
 case mapins kd c a b=>
  have h1:=Opd.ev_congr (x:=c) fun t ht=>h t (by simp[ht])
  have h2:=Opd.ev_congr (x:=a) fun t ht=>h t (by simp[ht])
  have h3:=Opd.ev_congr (x:=b) fun t ht=>h t (by simp[ht])
  rw[h1,h2,h3]
 case mapset kd c a b=>
  have h1:=Opd.ev_congr (x:=c) fun t ht=>h t (by simp[ht])
  have h2:=Opd.ev_congr (x:=a) fun t ht=>h t (by simp[ht])
  have h3:=Opd.ev_congr (x:=b) fun t ht=>h t (by simp[ht])
  rw[h1,h2,h3]
 case pick c a b=>
  have h1:=Opd.ev_congr (x:=c) fun t ht=>h t (by simp[ht])
  have h2:=Opd.ev_congr (x:=a) fun t ht=>h t (by simp[ht])
  have h3:=Opd.ev_congr (x:=b) fun t ht=>h t (by simp[ht])
  rw[h1,h2,h3]
 case build zs ps=>
  have :(ps.map fun(x:Nat×Nat×Opd)=>(x.1,x.2.1,x.2.2.ev e))=ps.map fun x=>(x.1,x.2.1,x.2.2.ev e'):=
   List.map_congr_left fun x hx=>by rw[Opd.ev_congr fun t ht=>h t (List.mem_flatMap.2 ⟨x,hx,ht⟩)]
  rw[this]
 case bslice e0 sz len z ps=>
  have :(ps.map fun(x:Nat×Opd)=>(x.1,x.2.ev e))=ps.map fun x=>(x.1,x.2.ev e'):=
   List.map_congr_left fun x hx=>by rw[Opd.ev_congr fun t ht=>h t (List.mem_flatMap.2 ⟨x,hx,ht⟩)]
  rw[this]
 case mkfn f first cap=>
  rw[evs_congr (xs:=first) fun t ht=>h t (List.mem_append_left _ ht),evs_congr (xs:=cap) fun t ht=>h t (List.mem_append_right _ ht)]
 case slice sz x lo hi=>
  have h1:=Opd.ev_congr (x:=x) fun t ht=>h t (by simp[ht])
  have h2:lo.map (·.ev e)=lo.map (·.ev e'):=by
   cases lo with
   |none=>rfl
   |some y=>simp only[Option.map_some];rw[Opd.ev_congr (x:=y) fun t ht=>h t (by simp[optSlots,ht])]
  have h3:hi.map (·.ev e)=hi.map (·.ev e'):=by
   cases hi with
   |none=>rfl
   |some y=>simp only[Option.map_some];rw[Opd.ev_congr (x:=y) fun t ht=>h t (by simp[optSlots,ht])]
  rw[h1,h2,h3]
 case slarr n sz x lo hi=>
  have h1:=Opd.ev_congr (x:=x) fun t ht=>h t (by simp[ht])
  have h2:lo.map (·.ev e)=lo.map (·.ev e'):=by
   cases lo with
   |none=>rfl
   |some y=>simp only[Option.map_some];rw[Opd.ev_congr (x:=y) fun t ht=>h t (by simp[optSlots,ht])]
  have h3:hi.map (·.ev e)=hi.map (·.ev e'):=by
   cases hi with
   |none=>rfl
   |some y=>simp only[Option.map_some];rw[Opd.ev_congr (x:=y) fun t ht=>h t (by simp[optSlots,ht])]
  rw[h1,h2,h3]
theorem evKC_congr{c:CallR}{e e':Env}{H:Hp}{k:SK}(h:∀t∈k.slots,e.get t=e'.get t):evKC c G e H k=evKC c G e' H k:=by
 by_cases hp:∃x,k= .panic x
 ·obtain⟨x,rfl⟩:=hp
  simp only[evKC]
  rw[Opd.ev_congr (x:=x) fun t ht=>h t ht]
 by_cases hk:k.isCall=true
 ·cases k<;>first |(cases hk;done) |(exact absurd ⟨_,rfl⟩ hp) |skip
  rename_i f as
  simp only[SK.slots] at h
  simp only[evKC]
  rw[Opd.ev_congr (x:=f) fun t ht=>h t (List.mem_append_left _ ht),evs_congr (xs:=as) fun t ht=>h t (List.mem_append_right _ ht)]
 ·rw[evKC_plain (by simpa using hk),evKC_plain (by simpa using hk),evK_congr h]
theorem evK_heapless{e:Env}{k:SK}(h:k.heapless=true)(H:Hp):evK G e H k=(evK G e ⟨[],[]⟩ k).map fun x=>(x.1,H):=by
 cases k<;>first |(cases h;done) |skip
 all_goals
  simp only[evK]
  first
   |rfl
   |(simp only[Option.map_map];rfl)
   |(split<;>first |rfl |(simp only[Option.map_map];rfl) |(split<;>first |rfl |(simp only[Option.map_map];rfl)))
theorem evKC_same{c:CallR}{e:Env}{H H':Hp}{k:SK}{d:D}(he:evKC c G e H k=some (.val d,H'))(hc:cls e k≤1)(hl:H'.bx.length=H.bx.length):
    H'=H∧(cls e k=0→∀H2,evKC c G e H2 k=some (.val d,H2)):=by
 by_cases hp:∃x,k= .panic x
 ·obtain⟨x,rfl⟩:=hp
  simp only[cls] at hc
  omega
 by_cases hk:k.isCall=true
 ·cases k<;>first |(cases hk;done) |(exact absurd ⟨_,rfl⟩ hp) |skip
  rename_i f as
  simp only[cls] at hc⊢
  split at hc
  ·rename_i href
   rw[if_pos href]
   simp only[Bool.and_eq_true,List.isEmpty_iff] at href
   simp only[evKC] at he⊢
   unfold callV at he⊢
   split at he
   ·rename_i g first cap hg
    have hr:D.refsL (first++List.map (fun x=>Opd.ev e x) as++cap)=[]:=by
     have:=href.1
     have app:∀x y:List D,D.refsL (x++y)=D.refsL x++D.refsL y:=by
      intro x y
      induction x with
      |nil=>simp[D.refsL]
      |cons d x ih=>simp[D.refsL,ih]
     rw[hg] at this
     simp only[D.refsL,D.refs,List.append_eq_nil_iff] at this
     rw[app,app,this.1.1,this.1.2,this.2]
     rfl
    have ht:D.toksL (first++List.map (fun x=>Opd.ev e x) as++cap)=[]:=by
     have:=href.2
     have app:∀x y:List D,D.toksL (x++y)=D.toksL x++D.toksL y:=by
      intro x y
      induction x with
      |nil=>simp[D.toksL]
      |cons d x ih=>simp[D.toksL,ih]
     rw[hg] at this
     simp only[D.toksL,D.toks,List.append_eq_nil_iff] at this
     rw[app,app,this.1.1,this.1.2,this.2]
     rfl
    have hreach:∀H0:Hp,∀n,reach H0 n []=[]:=by
     intro H0 n
     cases n<;>simp[reach,boxRefs]
    unfold callD at he⊢
    simp only[hr,ht,ins,hreach,boxToks,List.append_nil,nodupB,Bool.and_self,if_true,mapO] at he⊢
    split at he
    ·rename_i as' bx tk h1 h2 h3
     cases h2;cases h3
     split at he
     ·rename_i rl Hl hcall
      have key:∀H0:Hp,(Hl.bx.length=0∨True)→back [] [] H0 rl Hl=(match rl.ren (fun _=>none) (fun _=>none) with
          |some r'=>some (r',H0)
          |none=>match rl.ren (fun i=>some (H0.bx.length+i)) (fun _=>none),mapO (D.renL (fun i=>some (H0.bx.length+i)) fun _=>none) Hl.bx with
           |some r',some (n0::nw)=>some (r',⟨H0.bx++(n0::nw),H0.tk⟩)
           |_,_=>none):=by
       intro H0 _
       unfold back
       simp only[firstN,List.length_nil,Nat.zero_le,if_true,List.take_zero,List.getElem?_nil,mapO,putAll,Nat.not_lt_zero,if_false,Nat.sub_zero,List.drop_zero]
       cases rl.ren (fun _=>none) (fun _=>none) with
       |some r'=>rfl
       |none=>
        cases rl.ren (fun i=>some (H0.bx.length+i)) (fun _=>none)<;>cases mapO (D.renL (fun i=>some (H0.bx.length+i)) fun _=>none) Hl.bx<;>first |rfl |(rename_i l;cases l<;>rfl)
      rw[key H (.inr trivial)] at he
      cases hren:rl.ren (fun _=>none) (fun _=>none) with
      |some r'=>
       rw[hren] at he
       cases he
       refine⟨rfl,fun _ H2=>?_⟩
       rw[key H2 (.inr trivial),hren]
      |none=>
       rw[hren] at he
       dsimp only at he
       split at he
       ·cases he
        simp at hl
       ·cases he
     ·cases he
    ·cases he
   ·cases he
  ·omega
 ·have hk:k.isCall=false:=by simpa using hk
  rw[evKC_plain hk] at he
  have pl:∀H2,evKC c G e H2 k=match evK G e H2 k with |some (d,H')=>some (.val d,H') |none=>none:=fun H2=>evKC_plain hk
  split at he
  ·rename_i d0 H0 hd
   cases he
   by_cases hl':k.heapless=true
   ·have q:=evK_heapless (G:=G) (e:=e) hl' H
    rw[q] at hd
    obtain⟨x,hx,hh⟩:=Option.map_eq_some_iff.1 hd
    cases hh
    refine⟨rfl,fun _ H2=>?_⟩
    rw[pl,evK_heapless hl' H2,hx]
    rfl
   ·cases k<;>first |(exact absurd rfl hl') |(exfalso;simp only[cls] at hc;omega) |(exfalso;cases hk;done) |skip
    rotate_left
    ·rename_i x
     simp only[evK] at hd
     obtain⟨d',hd',hh⟩:=Option.map_eq_some_iff.1 hd
     cases hh
     exact⟨rfl,fun h0=>by simp[cls] at h0⟩
    ·rename_i e0 x n
     simp only[evK] at hd
     refine⟨?_,fun h0=>by simp[cls] at h0⟩
     unfold ustrD at hd
     split at hd
     ·split at hd
      ·split at hd<;>cases hd;rfl
      ·split at hd<;>cases hd;rfl
      ·split at hd
       ·obtain⟨d',hd',hh⟩:=Option.map_eq_some_iff.1 hd
        cases hh;rfl
       ·cases hd
      ·cases hd
     ·cases hd
    ·simp only[evK] at hd
     obtain⟨d',hd',hh⟩:=Option.map_eq_some_iff.1 hd
     cases hh
     exact⟨rfl,fun h0=>by simp[cls] at h0⟩
    ·rename_i x _
     simp only[evK] at hd
     split at hd
     ·rename_i xs hxs
      obtain⟨s,hs,hh⟩:=Option.map_eq_some_iff.1 hd
      cases hh
      refine⟨rfl,fun h0 H2=>?_⟩
      rw[pl]
      simp only[evK]
      simp only[cls] at h0
      have hq:∀Hq:Hp,srcBH Hq (x.ev e)=srcB (x.ev e):=by
       intro Hq
       unfold srcBH
       split
       ·rename_i hx;rw[hx] at h0;cases h0
       ·rfl
      rw[hq] at hxs⊢
      simp only[hxs,hs,Option.map_some]
     ·cases hd
    ·rename_i n x
     simp only[cls] at hc⊢
     simp only[evK] at hd
     obtain⟨d',hd',hh⟩:=Option.map_eq_some_iff.1 hd
     cases hh
     refine⟨rfl,fun h0 H2=>?_⟩
     rw[pl]
     simp only[evK]
     unfold loadD at hd'⊢
     split at h0
     ·rename_i cs off hx
      rw[hx] at hd'⊢
      dsimp only at hd'⊢
      rw[hd'];rfl
     ·rename_i g off hx
      rw[hx] at hd'⊢
      dsimp only at hd'⊢
      rw[hd'];rfl
     ·omega
  ·cases he
end Go.Vs
namespace Go.Vs
variable {P : Program} {W : World} {G : Nat → Option (List PD)}
def lastW{α:Type}(g0:α)(wr:Nat→Bool)(d:Nat→α)(l:Nat→Bool):Nat→α
 | 0=>g0
 |m+1=>if l m=true∧wr m=true then d m else lastW g0 wr d l m
theorem lastW_congr{α:Type}{g0:α}{wr:Nat→Bool}{d:Nat→α}{l l':Nat→Bool}:∀(n:Nat),(∀j,j<n→wr j=true→l j=l' j)→lastW g0 wr d l n=lastW g0 wr d l' n
 | 0,_=>rfl
 |n+1,h=>by
  simp only[lastW]
  rw[lastW_congr n fun j hj hw=>h j (by omega) hw]
  by_cases hw:wr n=true
  ·rw[h n (by omega) hw]
  ·simp[hw]
theorem lastW_below{α:Type}{g0:α}{wr:Nat→Bool}{d:Nat→α}{i:Nat}:∀(n:Nat),i≤n→lastW g0 wr d (fun j=>decide (j<i)) n=lastW g0 wr d (fun _=>true) i
 | 0,h=>by
  have :i=0:=by omega
  subst this;rfl
 |n+1,h=>by
  by_cases hi:i=n+1
  ·subst hi
   exact lastW_congr (n+1) fun j hj _=>by simp[hj]
  ·simp only[lastW]
   rw[if_neg (by simp;omega),lastW_below n (by omega)]
theorem lastW_at{α:Type}{g0:α}{wr:Nat→Bool}{d:Nat→α}{l:Nat→Bool}{i:Nat}(hl:l i=true)(hw:wr i=true):∀(n:Nat),i<n→(∀j,i<j→j<n→wr j=true→l j=false)→lastW g0 wr d l n=d i
 | 0,h,_=>by omega
 |n+1,h,q=>by
  simp only[lastW]
  by_cases hi:i=n
  ·subst hi;rw[if_pos ⟨hl,hw⟩]
  ·rw[if_neg (fun x=>by have:=q n (by omega) (by omega) x.2;rw[this] at x;exact absurd x.1 (by simp)),lastW_at hl hw n (by omega) fun j h1 h2 h3=>q j h1 (by omega) h3]
def slotClash(a b:SO):Bool:=
 (match a.dst with |some t=>b.uses.contains t||b.dst==some t |none=>false)||(match b.dst with |some t=>a.uses.contains t |none=>false)
def predsOf(o:Oper):List Nat:=(o.after.toList.filter (Region.binds .any)).map (·.on)
def maskOf(ms:List Nat):List Nat→Nat
 |[]=>0
 |j::r=>(maskOf ms r|||(1<<<j))|||ms.getD j 0
def masksOf:List Oper→List Nat→List Nat
 |[],ms=>ms
 |o::r,ms=>masksOf r (ms++[maskOf ms (predsOf o)])
def rel(ms:List Nat)(i j:Nat):Bool:=(ms.getD i 0).testBit j
def earlierOk(ms:List Nat)(pairs:List (Nat×Nat))(i:Nat)(ps:List Nat)(b:SO):Nat→List SO→Bool
 |_,[]=>true
 |j,a::r=>(if rel ms i j then ps.any fun p=>p==j||(decide (j<p)&&rel ms p j) else !slotClash a b&&(a.k.heapless||b.k.heapless||pairs.contains (j,i)))&&earlierOk ms pairs i ps b (j+1) r
def drawOkAt(ms:List Nat)(pairs:List (Nat×Nat))(sl:List SO):Nat→List Oper→List SO→Bool
 |i,o::os,b::bs=>(predsOf o).all (fun p=>decide (p<i))&&earlierOk ms pairs i (predsOf o) b 0 (sl.take i)&&drawOkAt ms pairs sl (i+1) os bs
 |_,_,_=>true
def drawOk(pairs:List (Nat×Nat))(ops:List Oper)(sl:List SO):Bool:=drawOkAt (masksOf ops []) pairs sl 0 ops sl
theorem earlierOk_iff{ms:List Nat}{pairs:List (Nat×Nat)}{i:Nat}{ps:List Nat}{b:SO}:∀{j0:Nat} {l:List SO},earlierOk ms pairs i ps b j0 l=true→∀(j:Nat) a,l[j]? =some a→
    (rel ms i (j0+j)=true∧∃p∈ps,p=j0+j∨(j0+j<p∧rel ms p (j0+j)=true))∨
    (rel ms i (j0+j)=false∧slotClash a b=false∧(a.k.heapless=true∨b.k.heapless=true∨(j0+j,i)∈pairs))
 |_,[],_,j,a,ha=>by simp at ha
 |j0,x::l,h,j,a,ha=>by
  simp only[earlierOk,Bool.and_eq_true] at h
  match j with
  | 0=>
   simp only[List.getElem?_cons_zero,Option.some.injEq] at ha
   subst ha
   have h1:=h.1
   split at h1
   ·rename_i hr
    refine .inl ⟨hr,?_⟩
    simpa[List.any_eq_true] using h1
   ·rename_i hr
    refine .inr ⟨by simpa using hr,?_⟩
    simpa[or_assoc] using h1
  |j+1=>
   have:=earlierOk_iff h.2 j a (by simpa using ha)
   rw[show j0+(j+1)=j0+1+j by omega]
   exact this
theorem drawOkAt_iff{ms:List Nat}{pairs:List (Nat×Nat)}{sl:List SO}:∀{i0:Nat} {os:List Oper} {bs:List SO},drawOkAt ms pairs sl i0 os bs=true→∀(i:Nat) o b,os[i]? =some o→bs[i]? =some b→
    (∀p∈predsOf o,p<i0+i)∧earlierOk ms pairs (i0+i) (predsOf o) b 0 (sl.take (i0+i))=true
 |_,[],_,_,i,o,b,ho,_=>by simp at ho
 |_,_::_,[],_,i,o,b,_,hb=>by simp at hb
 |i0,x::os,y::bs,h,i,o,b,ho,hb=>by
  simp only[drawOkAt,Bool.and_eq_true] at h
  match i with
  | 0=>
   simp only[List.getElem?_cons_zero,Option.some.injEq] at ho hb
   subst ho;subst hb
   exact⟨by simpa[List.all_eq_true] using h.1.1,h.1.2⟩
  |i+1=>
   have:=drawOkAt_iff h.2 i o b (by simpa using ho) (by simpa using hb)
   rw[show i0+(i+1)=i0+1+i by omega]
   exact this
theorem drawOk_iff{pairs:List (Nat×Nat)}{ops:List Oper}{sl:List SO}(h:drawOk pairs ops sl=true):∃R:Nat→Nat→Bool,∀(i:Nat) o b,ops[i]? =some o→sl[i]? =some b→
    (∀p∈predsOf o,p<i)∧∀(j:Nat) a,j<i→sl[j]? =some a→
     (R i j=true∧∃p∈predsOf o,p=j∨(j<p∧R p j=true))∨(R i j=false∧slotClash a b=false∧(a.k.heapless=true∨b.k.heapless=true∨(j,i)∈pairs)):=by
 refine⟨rel (masksOf ops []),fun i o b ho hb=>?_⟩
 have:=drawOkAt_iff h i o b ho hb
 simp only[Nat.zero_add] at this
 refine⟨this.1,fun j a hj ha=>?_⟩
 have:=earlierOk_iff this.2 j a (by rw[List.getElem?_take_of_lt hj];exact ha)
 simpa using this
structure Trace (c:CallR) (G:Nat→Option (List PD)) (sl:List SO) (E:Nat→Env) (Hs:Nat→Hp) (d:Nat→D) (cs:Nat→Nat×Nat) (X:Nat→Bool):Prop where
 env:∀(j:Nat) so,sl[j]? =some so→E (j+1)=put so.dst (d j) (E j)
 step:∀(j:Nat) so,sl[j]? =some so→((X j=true∨evGuard (E j) so.g=some false)∧d j= .undef∧Hs (j+1)=Hs j∧cs j=(0,0))∨
  (evGuard (E j) so.g=some true∧evKC c G (E j) (Hs j) so.k=some (.val (d j),Hs (j+1))∧cs j=clsP (E j) (Hs j) (Hs (j+1)) so.k)
theorem evRest_trace{c:CallR}{pairs:List (Nat×Nat)}{k:Nat}:∀{sl:List SO} {i:Nat} {dead:List Nat} {env:Env} {H:Hp} {cs:List (Nat×Nat)},evRest c G pairs k i dead sl env H=some cs→
    ∃E Hs d X,E 0=env∧Hs 0=H∧Trace c G sl E Hs d (fun j=>cs.getD j (0,0)) X∧(∀j,isW (cs.getD j (0,0)).1=false)∧
     ∀(j:Nat) so,sl[j]? =some so→X j=true→(∃t,t∈so.uses∧(t∈dead∨∃j' so',j'<j∧X j'=true∧sl[j']? =some so'∧so'.dst=some t))∨(so.k.heapless=false∧(k,i+j)∉pairs)
 |[],i,dead,env,H,cs,h=>by
  simp only[evRest] at h
  cases h
  exact⟨fun _=>env,fun _=>H,fun _=>.undef,fun _=>false,rfl,rfl,⟨fun j so hs=>by simp at hs,fun j so hs=>by simp at hs⟩,fun j=>by simp[isW],fun j so hs=>by simp at hs⟩
 |o::sl,i,dead,env,H,cs,h=>by
  simp only[evRest] at h
  split at h
  ·rename_i hb
   obtain⟨cs1,hr,rfl⟩:=Option.map_eq_some_iff.1 h
   obtain⟨E,Hs,d,X,a1,a2,T,hw,hx⟩:=evRest_trace hr
   refine⟨fun j=>match j with | 0=>env |j+1=>E j,fun j=>match j with | 0=>H |j+1=>Hs j,fun j=>match j with | 0=>.undef |j+1=>d j,fun j=>match j with | 0=>true |j+1=>X j,rfl,rfl,⟨fun j so hs=>?_,fun j so hs=>?_⟩,fun j=>?_,fun j so hs hX=>?_⟩
   ·match j with
    | 0=>simp only[List.getElem?_cons_zero,Option.some.injEq] at hs;subst hs;exact a1
    |j+1=>exact T.env j so (by simpa using hs)
   ·match j with
    | 0=>exact .inl ⟨.inl rfl,rfl,a2,rfl⟩
    |j+1=>exact T.step j so (by simpa using hs)
   ·match j with
    | 0=>rfl
    |j+1=>exact hw j
   ·match j with
    | 0=>
     simp only[List.getElem?_cons_zero,Option.some.injEq] at hs;subst hs
     simp only[behind,Bool.or_eq_true,Bool.and_eq_true,Bool.not_eq_true',List.any_eq_true] at hb
     rcases hb with⟨t,ht,htd⟩ |⟨h1,h2⟩
     ·exact .inl ⟨t,ht,.inl (by simpa using htd)⟩
     ·exact .inr ⟨h1,by simpa using h2⟩
    |j+1=>
     rcases hx j so (by simpa using hs) hX with⟨t,ht,hd⟩ |⟨h1,h2⟩
     ·refine .inl ⟨t,ht,?_⟩
      rcases hd with hd |⟨j',so',q1,q2,q3,q4⟩
      ·rcases List.mem_append.1 hd with hd |hd
       ·exact .inr ⟨0,o,by omega,rfl,rfl,by simpa using hd⟩
       ·exact .inl hd
      ·exact .inr ⟨j'+1,so',by omega,q2,by simpa using q3,q4⟩
     ·exact .inr ⟨h1,by rw[show i+(j+1)=i+1+j by omega];exact h2⟩
  ·split at h
   ·rename_i hg
    split at h
    ·rename_i d0 H0 hd
     split at h
     ·cases h
     ·rename_i hnw
      obtain⟨cs1,hr,rfl⟩:=Option.map_eq_some_iff.1 h
      obtain⟨E,Hs,d,X,a1,a2,T,hw,hx⟩:=evRest_trace hr
      refine⟨fun j=>match j with | 0=>env |j+1=>E j,fun j=>match j with | 0=>H |j+1=>Hs j,fun j=>match j with | 0=>d0 |j+1=>d j,fun j=>match j with | 0=>false |j+1=>X j,rfl,rfl,⟨fun j so hs=>?_,fun j so hs=>?_⟩,fun j=>?_,fun j so hs hX=>?_⟩
      ·match j with
       | 0=>simp only[List.getElem?_cons_zero,Option.some.injEq] at hs;subst hs;exact a1
       |j+1=>exact T.env j so (by simpa using hs)
      ·match j with
       | 0=>
        simp only[List.getElem?_cons_zero,Option.some.injEq] at hs;subst hs
        refine .inr ⟨hg,?_,?_⟩
        ·simp only[a2];exact hd
        ·simp only[a2];rfl
       |j+1=>exact T.step j so (by simpa using hs)
      ·match j with
       | 0=>simpa using hnw
       |j+1=>exact hw j
      ·match j with
       | 0=>cases hX
       |j+1=>
        rcases hx j so (by simpa using hs) hX with⟨t,ht,hd⟩ |⟨h1,h2⟩
        ·refine .inl ⟨t,ht,?_⟩
         rcases hd with hd |⟨j',so',q1,q2,q3,q4⟩
         ·exact .inl hd
         ·exact .inr ⟨j'+1,so',by omega,q2,by simpa using q3,q4⟩
        ·exact .inr ⟨h1,by rw[show i+(j+1)=i+1+j by omega];exact h2⟩
    ·cases h
   ·rename_i hg
    obtain⟨cs1,hr,rfl⟩:=Option.map_eq_some_iff.1 h
    obtain⟨E,Hs,d,X,a1,a2,T,hw,hx⟩:=evRest_trace hr
    refine⟨fun j=>match j with | 0=>env |j+1=>E j,fun j=>match j with | 0=>H |j+1=>Hs j,fun j=>match j with | 0=>.undef |j+1=>d j,fun j=>match j with | 0=>false |j+1=>X j,rfl,rfl,⟨fun j so hs=>?_,fun j so hs=>?_⟩,fun j=>?_,fun j so hs hX=>?_⟩
    ·match j with
     | 0=>simp only[List.getElem?_cons_zero,Option.some.injEq] at hs;subst hs;exact a1
     |j+1=>exact T.env j so (by simpa using hs)
    ·match j with
     | 0=>
      simp only[List.getElem?_cons_zero,Option.some.injEq] at hs;subst hs
      exact .inl ⟨.inr hg,rfl,a2,rfl⟩
     |j+1=>exact T.step j so (by simpa using hs)
    ·match j with
     | 0=>rfl
     |j+1=>exact hw j
    ·match j with
     | 0=>cases hX
     |j+1=>
      rcases hx j so (by simpa using hs) hX with⟨t,ht,hd⟩ |⟨h1,h2⟩
      ·refine .inl ⟨t,ht,?_⟩
       rcases hd with hd |⟨j',so',q1,q2,q3,q4⟩
       ·exact .inl hd
       ·exact .inr ⟨j'+1,so',by omega,q2,by simpa using q3,q4⟩
      ·exact .inr ⟨h1,by rw[show i+(j+1)=i+1+j by omega];exact h2⟩
   ·cases h
theorem slotClash_use{a b:SO}{t:Nat}(ha:a.dst=some t)(hb:t∈b.uses):slotClash a b=true:=by
 simp[slotClash,ha,hb]
theorem evDrawP_trace{c:CallR}{pairs:List (Nat×Nat)}:∀{sl:List SO} {i:Nat} {env:Env} {H:Hp} {dv:D} {H':Hp} {cs:List (Nat×Nat)} {k:Nat},evDrawP c G pairs i sl env H=some (dv,H',cs,k)→
    ∃E Hs d X k0,k=i+k0∧E 0=env∧Hs 0=H∧Trace c G sl E Hs d (fun j=>cs.getD j (0,0)) X∧X k0=true∧(∀j,j<k0→X j=false)∧
     (∃so,sl[k0]? =some so∧evGuard (E k0) so.g=some true∧evKC c G (E k0) (Hs k0) so.k=some (.pan dv,H'))∧(∀j,k0<j→isW (cs.getD j (0,0)).1=false)∧
     ∀(j:Nat) so,sl[j]? =some so→X j=true→j≠k0→k0<j∧((∃j' so',j'<j∧X j'=true∧sl[j']? =some so'∧slotClash so' so=true)∨(so.k.heapless=false∧(k,i+j)∉pairs))
 |[],i,env,H,dv,H',cs,k,h=>by
  simp only[evDrawP] at h
  cases h
 |o::sl,i,env,H,dv,H',cs,k,h=>by
  have later:∀(v:D) (H0:Hp) (x:Nat×Nat) (cs1:List (Nat×Nat)),evDrawP c G pairs (i+1) sl (put o.dst v env) H0=some (dv,H',cs1,k)→cs=x::cs1→
      ((evGuard env o.g=some false∧v= .undef∧H0=H∧x=(0,0))∨(evGuard env o.g=some true∧evKC c G env H o.k=some (.val v,H0)∧x=clsP env H H0 o.k))→
      ∃E Hs d X k0,k=i+k0∧E 0=env∧Hs 0=H∧Trace c G (o::sl) E Hs d (fun j=>cs.getD j (0,0)) X∧X k0=true∧(∀j,j<k0→X j=false)∧
       (∃so,(o::sl)[k0]? =some so∧evGuard (E k0) so.g=some true∧evKC c G (E k0) (Hs k0) so.k=some (.pan dv,H'))∧(∀j,k0<j→isW (cs.getD j (0,0)).1=false)∧
       ∀(j:Nat) so,(o::sl)[j]? =some so→X j=true→j≠k0→k0<j∧((∃j' so',j'<j∧X j'=true∧(o::sl)[j']? =some so'∧slotClash so' so=true)∨(so.k.heapless=false∧(k,i+j)∉pairs)):=by
   intro v H0 x cs1 hr hcs hstep
   subst hcs
   obtain⟨E,Hs,d,X,k0,hk,a1,a2,T,b1,b2,⟨so,b3,b4,b5⟩,b6,b7⟩:=evDrawP_trace hr
   refine⟨fun j=>match j with | 0=>env |j+1=>E j,fun j=>match j with | 0=>H |j+1=>Hs j,fun j=>match j with | 0=>v |j+1=>d j,fun j=>match j with | 0=>false |j+1=>X j,k0+1,by omega,rfl,rfl,⟨fun j so hs=>?_,fun j so hs=>?_⟩,b1,fun j hj=>?_,⟨so,by simpa using b3,b4,b5⟩,fun j hj=>?_,fun j so hs hX hne=>?_⟩
   ·match j with
    | 0=>simp only[List.getElem?_cons_zero,Option.some.injEq] at hs;subst hs;exact a1
    |j+1=>exact T.env j so (by simpa using hs)
   ·match j with
    | 0=>
     simp only[List.getElem?_cons_zero,Option.some.injEq] at hs;subst hs
     rcases hstep with⟨h1,h2,h3,h4⟩ |⟨h1,h2,h3⟩
     ·exact .inl ⟨.inr h1,h2,a2.trans h3,h4⟩
     ·refine .inr ⟨h1,?_,?_⟩
      ·simp only[a2];exact h2
      ·simp only[a2];exact h3
    |j+1=>exact T.step j so (by simpa using hs)
   ·match j with
    | 0=>rfl
    |j+1=>exact b2 j (by omega)
   ·match j with
    | 0=>omega
    |j+1=>exact b6 j (by omega)
   ·match j with
    | 0=>cases hX
    |j+1=>
     obtain⟨c1,c2⟩:=b7 j so (by simpa using hs) hX (by omega)
     refine⟨by omega,?_⟩
     rcases c2 with⟨j',so',q1,q2,q3,q4⟩ |⟨q1,q2⟩
     ·exact .inl ⟨j'+1,so',by omega,q2,by simpa using q3,q4⟩
     ·exact .inr ⟨q1,by rw[show i+(j+1)=i+1+j by omega];exact q2⟩
  simp only[evDrawP] at h
  split at h
  ·rename_i hg
   split at h
   ·rename_i d0 H0 hd
    obtain⟨⟨dv1,H1,cs1,k1⟩,hr,hh⟩:=Option.map_eq_some_iff.1 h
    simp only[Prod.mk.injEq] at hh
    obtain⟨rfl,rfl,rfl,rfl⟩:=hh
    exact later d0 H0 _ cs1 hr rfl (.inr ⟨hg,hd,rfl⟩)
   ·rename_i d0 H0 hd
    obtain⟨cs1,hr,hh⟩:=Option.map_eq_some_iff.1 h
    simp only[Prod.mk.injEq] at hh
    obtain⟨rfl,rfl,rfl,rfl⟩:=hh
    obtain⟨E,Hs,d,X,a1,a2,T,hw,hx⟩:=evRest_trace hr
    refine⟨fun j=>match j with | 0=>env |j+1=>E j,fun j=>match j with | 0=>H |j+1=>Hs j,fun j=>match j with | 0=>.undef |j+1=>d j,fun j=>match j with | 0=>true |j+1=>X j,0,rfl,rfl,rfl,⟨fun j so hs=>?_,fun j so hs=>?_⟩,rfl,fun j hj=>by omega,⟨o,rfl,hg,hd⟩,fun j hj=>?_,fun j so hs hX hne=>?_⟩
    ·match j with
     | 0=>simp only[List.getElem?_cons_zero,Option.some.injEq] at hs;subst hs;exact a1
     |j+1=>exact T.env j so (by simpa using hs)
    ·match j with
     | 0=>exact .inl ⟨.inl rfl,rfl,a2,rfl⟩
     |j+1=>exact T.step j so (by simpa using hs)
    ·match j with
     | 0=>omega
     |j+1=>exact hw j
    ·match j with
     | 0=>exact absurd rfl hne
     |j+1=>
      refine⟨by omega,?_⟩
      rcases hx j so (by simpa using hs) hX with⟨t,ht,hd⟩ |⟨h1,h2⟩
      ·rcases hd with hd |⟨j',so',q1,q2,q3,q4⟩
       ·exact .inl ⟨0,o,by omega,rfl,rfl,slotClash_use (by simpa using hd) ht⟩
       ·exact .inl ⟨j'+1,so',by omega,q2,by simpa using q3,slotClash_use q4 ht⟩
      ·exact .inr ⟨h1,by rw[show i+(j+1)=i+1+j by omega];exact h2⟩
   ·cases h
  ·rename_i hg
   obtain⟨⟨dv1,H1,cs1,k1⟩,hr,hh⟩:=Option.map_eq_some_iff.1 h
   simp only[Prod.mk.injEq] at hh
   obtain⟨rfl,rfl,rfl,rfl⟩:=hh
   exact later .undef H _ cs1 hr rfl (.inl ⟨hg,rfl,rfl,rfl⟩)
  ·cases h
theorem evDraw_trace{c:CallR}:∀{sl:List SO} {env:Env} {H:Hp} {e':Env} {H':Hp} {cs:List (Nat×Nat)},evDraw c G sl env H=some (e',H',cs)→
    ∃E Hs d,E 0=env∧Hs 0=H∧E sl.length=e'∧Hs sl.length=H'∧Trace c G sl E Hs d (fun j=>cs.getD j (0,0)) (fun _=>false)
 |[],env,H,e',H',cs,h=>by
  simp only[evDraw] at h
  cases h
  exact⟨fun _=>env,fun _=>H,fun _=>.undef,rfl,rfl,rfl,rfl,fun j so hs=>by simp at hs,fun j so hs=>by simp at hs⟩
 |o::sl,env,H,e',H',cs,h=>by
  simp only[evDraw] at h
  split at h
  ·rename_i hg
   split at h
   ·rename_i d0 H0 hd
    split at h
    ·rename_i e1 h1 cs1 hr
     cases h
     obtain⟨E,Hs,d,a1,a2,a3,a4,T⟩:=evDraw_trace hr
     refine⟨fun j=>match j with | 0=>env |j+1=>E j,fun j=>match j with | 0=>H |j+1=>Hs j,fun j=>match j with | 0=>d0 |j+1=>d j,rfl,rfl,a3,a4,⟨fun j so hs=>?_,fun j so hs=>?_⟩⟩
     ·match j with
      | 0=>simp only[List.getElem?_cons_zero,Option.some.injEq] at hs;subst hs;exact a1
      |j+1=>exact T.env j so (by simpa using hs)
     ·match j with
      | 0=>
       simp only[List.getElem?_cons_zero,Option.some.injEq] at hs;subst hs
       refine .inr ⟨hg,?_,?_⟩
       ·simp only[a2];exact hd
       ·simp only[a2];rfl
      |j+1=>exact T.step j so (by simpa using hs)
    ·cases h
   ·cases h
  ·rename_i hg
   split at h
   ·rename_i e1 h1 cs1 hr
    cases h
    obtain⟨E,Hs,d,a1,a2,a3,a4,T⟩:=evDraw_trace hr
    refine⟨fun j=>match j with | 0=>env |j+1=>E j,fun j=>match j with | 0=>H |j+1=>Hs j,fun j=>match j with | 0=>.undef |j+1=>d j,rfl,rfl,a3,a4,⟨fun j so hs=>?_,fun j so hs=>?_⟩⟩
    ·match j with
     | 0=>simp only[List.getElem?_cons_zero,Option.some.injEq] at hs;subst hs;exact a1
     |j+1=>exact T.env j so (by simpa using hs)
    ·match j with
     | 0=>
      simp only[List.getElem?_cons_zero,Option.some.injEq] at hs;subst hs
      exact .inl ⟨.inr hg,rfl,a2,rfl⟩
     |j+1=>exact T.step j so (by simpa using hs)
   ·cases h
  ·cases h
theorem cls_le(e:Env)(k:SK):cls e k≤2:=by
 cases k<;>simp only[cls]<;>(try split)<;>omega
theorem cls_one{c:CallR}{e:Env}{H H':Hp}{k:SK}{d:D}(he:evKC c G e H k=some (.val d,H'))(hc:cls e k=1):H'=H:=by
 have hlen:H'.bx.length=H.bx.length:=by
  cases k<;>first |(exfalso;simp only[cls] at hc;omega) |skip
  ·rename_i n x
   rw[evKC_plain rfl] at he
   split at he
   ·rename_i hd
    cases he
    simp only[evK] at hd
    obtain⟨_,_,hh⟩:=Option.map_eq_some_iff.1 hd
    cases hh
    rfl
   ·cases he
  ·rw[evKC_plain rfl] at he
   split at he
   ·rename_i hd
    cases he
    simp only[evK] at hd
    obtain⟨_,_,hh⟩:=Option.map_eq_some_iff.1 hd
    cases hh
    rfl
   ·cases he
  ·rw[evKC_plain rfl] at he
   split at he
   ·rename_i hd
    cases he
    simp only[evK] at hd
    unfold ustrD at hd
    split at hd
    ·split at hd
     ·split at hd<;>cases hd;rfl
     ·split at hd<;>cases hd;rfl
     ·split at hd
      ·obtain⟨_,_,hh⟩:=Option.map_eq_some_iff.1 hd
       cases hh;rfl
      ·cases hd
     ·cases hd
    ·cases hd
   ·cases he
  ·rw[evKC_plain rfl] at he
   split at he
   ·rename_i hd
    cases he
    simp only[evK] at hd
    obtain⟨_,_,hh⟩:=Option.map_eq_some_iff.1 hd
    cases hh
    rfl
   ·cases he
  ·rw[evKC_plain rfl] at he
   split at he
   ·rename_i hd
    cases he
    simp only[evK] at hd
    split at hd
    ·obtain⟨_,_,hh⟩:=Option.map_eq_some_iff.1 hd
     cases hh;rfl
    ·cases hd
   ·cases he
  ·exfalso
   simp only[cls] at hc
   split at hc<;>omega
 exact(evKC_same he (by omega) hlen).1
theorem isW_write(i:Nat):isW (4+2*i)=true:=by
 simp only[isW,Bool.or_eq_true,Bool.and_eq_true,decide_eq_true_eq,beq_iff_eq]
 omega
def SK.isNew:SK→Bool
 | .alloc _ | .box _ | .mkmap _=>true
 |_=>false
theorem isNew_app{e:Env}{H H':Hp}{k:SK}{d:D}(hk:k.isNew=true)(h:evK G e H k=some (d,H')):∃x,H'.bx=H.bx++[x]:=by
 cases k<;>first |(cases hk;done) |skip
 ·simp only[evK] at h;split at h<;>cases h;exact⟨_,rfl⟩
 ·simp only[evK] at h;split at h<;>cases h;exact⟨_,rfl⟩
 ·simp only[evK] at h;cases h;exact⟨_,rfl⟩
theorem clsR_cases(l:Nat)(e:Env)(k:SK):clsR l e k=(cls e k,0)∨(∃n x i o,k= .load n x∧x.ev e= .box i o∧cls e k=1∧clsR l e k=(3+2*i,0))∨(∃n a v i o,k= .store n a v∧a.ev e= .box i o∧cls e k=2∧clsR l e k=(4+2*i,0))∨
    (∃g z ok m kk i,k= .mapget g z ok m kk∧m.ev e= .mapr i∧cls e k=1∧clsR l e k=(3+2*i,0))∨(k.isNew=true∧cls e k=2∧clsR l e k=(4+2*l,0))∨
    (∃kd m kk v i q,k= .mapins kd m kk v∧m.ev e= .mapr i∧kk.ev e= .p q∧i<2000000000∧clsR l e k=(4+2*i,keyCode q+1))∨
    (∃el sz by_ s x,k= .append el sz by_ s x∧clsR l e k=(4+2*1000000007,0)):=by
 cases k<;>first |exact .inr (.inr (.inr (.inr (.inr (.inr ⟨_,_,_,_,_,rfl,rfl⟩))))) |exact .inr (.inr (.inr (.inr (.inl ⟨rfl,rfl,rfl⟩)))) |(exact .inl rfl) |skip
 ·rename_i n x
  cases hx:x.ev e with
  |box i o=>exact .inr (.inl ⟨n,x,i,o,rfl,hx,by simp only[cls,hx],by simp only[clsR,hx]⟩)
  |_=>exact .inl (by simp only[clsR,hx])
 ·rename_i n a v
  cases hx:a.ev e with
  |box i o=>exact .inr (.inr (.inl ⟨n,a,v,i,o,rfl,hx,rfl,by simp only[clsR,hx]⟩))
  |_=>exact .inl (by simp only[clsR,hx])
 ·rename_i kd m kk v
  cases hx:m.ev e with
  |mapr i=>
   cases hy:kk.ev e with
   |p q=>
    by_cases hi:i<2000000000
    ·exact .inr (.inr (.inr (.inr (.inr (.inl ⟨kd,m,kk,v,i,q,rfl,hx,hy,hi,by simp only[clsR,hx,hy,hi,if_true]⟩)))))
    ·exact .inl (by simp only[clsR,hx,hy,hi,if_false];rfl)
   |_=>exact .inl (by simp only[clsR,hx,hy])
  |_=>exact .inl (by simp only[clsR,hx])
 ·rename_i g z ok m kk
  cases hx:m.ev e with
  |mapr i=>exact .inr (.inr (.inr (.inl ⟨g,z,ok,m,kk,i,rfl,hx,rfl,by simp only[clsR,hx]⟩)))
  |_=>exact .inl (by simp only[clsR,hx])
theorem clsP_cases(e:Env)(H H':Hp)(k:SK):(cls e k=0∧H'.bx.length=H.bx.length∧clsP e H H' k=(0,0))∨(cls e k=0∧∃m,isW m=true∧(m=2∨(m=4+2*H.bx.length∧H'.bx.length=H.bx.length+1))∧clsP e H H' k=(m,0))∨(cls e k≠0∧clsP e H H' k=clsR H.bx.length e k)∨(H'=H∧clsP e H H' k=(1,0))∨(k.isCall=true∧isCl k=true∧H'.bx.length=H.bx.length∧clsP e H H' k=(4+2*(2000000000+bnd (callIds e H k)),0)):=by
 unfold clsP
 split
 ·rename_i h
  split
  ·rename_i h2;exact .inl ⟨h,h2,rfl⟩
  ·split
   ·rename_i h3
    exact .inr (.inl ⟨h,_,by simp[isW],.inr ⟨rfl,h3⟩,rfl⟩)
   ·exact .inr (.inl ⟨h,2,rfl,.inl rfl,rfl⟩)
 ·rename_i h
  split
  ·rename_i h2
   rw[Bool.and_eq_true] at h2
   exact .inr (.inr (.inr (.inl ⟨hpEq_eq h2.2,rfl⟩)))
  ·split
   ·rename_i h3
    rw[Bool.and_eq_true] at h3
    refine .inr (.inr (.inr (.inr ⟨?_,h3.1,by simpa using h3.2,rfl⟩)))
    cases k<;>first |rfl |cases h3.1
   ·exact .inr (.inr (.inl ⟨h,rfl⟩))
theorem cls_heapless{e:Env}{k:SK}(h:k.heapless=true):cls e k=0:=by
 cases k<;>first |rfl |cases h
theorem isW_read'(i:Nat):isW (3+2*i)=false:=by
 simp[isW];omega
theorem evKC_pre{c:CallR}{e:Env}{H H':Hp}{k:SK}{d:D}(he:evKC c G e H k=some (.val d,H'))(hc:cls e k=0):H'.bx.take H.bx.length=H.bx:=by
 have same:H'=H→H'.bx.take H.bx.length=H.bx:=fun h=>by rw[h];simp
 by_cases hl:H'.bx.length=H.bx.length
 ·exact same (evKC_same he (by omega) hl).1
 by_cases hp:∃x,k= .panic x
 ·obtain⟨x,rfl⟩:=hp
  simp only[cls] at hc
  omega
 by_cases hk:k.isCall=true
 ·cases k<;>first |(cases hk;done) |(exact absurd ⟨_,rfl⟩ hp) |skip
  rename_i f as
  simp only[evKC] at he
  unfold callV at he
  split at he
  ·rename_i g first cap hg
   have href:D.refsL (first++List.map (fun x=>Opd.ev e x) as++cap)=[]:=by
    simp only[cls] at hc
    split at hc
    ·rename_i hr
     simp only[Bool.and_eq_true,List.isEmpty_iff] at hr
     have:=hr.1
     have app:∀x y:List D,D.refsL (x++y)=D.refsL x++D.refsL y:=by
      intro x y
      induction x with
      |nil=>simp[D.refsL]
      |cons d x ih=>simp[D.refsL,ih]
     rw[hg] at this
     simp only[D.refsL,D.refs,List.append_eq_nil_iff] at this
     rw[app,app,this.1.1,this.1.2,this.2]
     rfl
    ·omega
   have hreach:∀n,reach H n []=[]:=by
    intro n
    cases n<;>simp[reach,boxRefs]
   unfold callD at he
   dsimp only at he
   simp only[href,ins,hreach] at he
   split at he
   ·split at he
    ·split at he
     ·unfold back at he
      split at he
      ·dsimp only at he
       split at he
       ·cases he
        simp[putAll]
       ·split at he
        ·cases he
         simp[putAll]
        ·cases he
      ·cases he
     ·cases he
    ·cases he
   ·cases he
  ·cases he
 ·have hk:k.isCall=false:=by simpa using hk
  refine absurd ?_ hl
  rw[evKC_plain hk] at he
  split at he
  ·rename_i d0 H0 hd
   cases he
   by_cases hl':k.heapless=true
   ·have q:=evK_heapless (G:=G) (e:=e) hl' H
    rw[q] at hd
    obtain⟨x,hx,hh⟩:=Option.map_eq_some_iff.1 hd
    cases hh
    rfl
   ·cases k<;>first |(exact absurd rfl hl') |(exfalso;simp only[cls] at hc;omega) |(exfalso;cases hk;done) |skip
    all_goals
     simp only[evK] at hd
     first
      |(obtain⟨d',hd',hh⟩:=Option.map_eq_some_iff.1 hd
        cases hh;rfl)
      |(split at hd
        ·obtain⟨s,hs,hh⟩:=Option.map_eq_some_iff.1 hd
         cases hh;rfl
        ·cases hd)
  ·cases he
section
variable {c : CallR} {sl : List SO} {E : Nat → Env} {Hs : Nat → Hp} {d : Nat → D} {cs : Nat → Nat × Nat} {X : Nat → Bool}
theorem Trace.quiet(T:Trace c G sl E Hs d cs X){j:Nat}{so:SO}(hs:sl[j]? =some so)(h:isW (cs j).1=false):Hs (j+1)=Hs j:=by
 rcases T.step j so hs with⟨_,_,h1,_⟩ |⟨_,h1,h2⟩
 ·exact h1
 ·have:=cls_le (E j) so.k
  rcases clsP_cases (E j) (Hs j) (Hs (j+1)) so.k with⟨hc,hl,_⟩ |⟨_,m,hm,_,q⟩ |⟨hc,q⟩ |⟨q,_⟩ |⟨_,_,_,q⟩
  ·exact(evKC_same h1 (by omega) hl).1
  ·rw[h2,q] at h;rw[hm] at h;cases h
  rotate_left
  ·exact q
  ·rw[h2,q,isW_write] at h;cases h
  ·rw[q] at h2
   rcases clsR_cases (Hs j).bx.length (E j) so.k with q |⟨_,_,_,_,_,_,q,_⟩ |⟨_,_,_,i,_,_,_,_,q⟩ |⟨_,_,_,_,_,_,_,_,q,_⟩ |⟨_,_,q⟩ |⟨_,_,_,_,_,_,_,_,_,_,q⟩ |⟨_,_,_,_,_,_,q⟩
   ·rw[h2,q] at h
    have hne:cls (E j) so.k≠2:=fun e=>by rw[e] at h;cases h
    exact cls_one h1 (by omega)
   ·exact cls_one h1 q
   ·rw[h2,q,isW_write] at h;cases h
   ·exact cls_one h1 q
   ·rw[h2,q,isW_write] at h;cases h
   ·rw[h2,q,isW_write] at h;cases h
   ·rw[h2,q,isW_write] at h;cases h
theorem Trace.free(T:Trace c G sl E Hs d cs X){j:Nat}{so:SO}(hs:sl[j]? =some so)(hx:X j=false)(h:(cs j).1=0)(hg:evGuard (E j) so.g=some true)(H2:Hp):evKC c G (E j) H2 so.k=some (.val (d j),H2):=by
 rcases T.step j so hs with⟨h0,_,_,_⟩ |⟨_,h1,h2⟩
 ·rcases h0 with h0 |h0
  ·rw[h0] at hx;cases hx
  ·rw[h0] at hg;cases hg
 ·rcases clsP_cases (E j) (Hs j) (Hs (j+1)) so.k with⟨hc,hl,_⟩ |⟨_,m,hm,_,q⟩ |⟨hc,q⟩ |⟨_,q⟩ |⟨hkc,hcl,hlen,q⟩
  ·exact(evKC_same h1 (by omega) hl).2 hc H2
  ·rw[h2,q] at h;dsimp only at h;rw[h] at hm;cases hm
  rotate_left
  ·rw[h2,q] at h;cases h
  ·rw[h2,q] at h;dsimp only at h;omega
  ·rw[q] at h2
   rcases clsR_cases (Hs j).bx.length (E j) so.k with q |⟨_,_,_,_,_,_,_,q⟩ |⟨_,_,_,_,_,_,_,_,q⟩ |⟨_,_,_,_,_,_,_,_,_,q⟩ |⟨_,_,q⟩ |⟨_,_,_,_,_,_,_,_,_,_,q⟩ |⟨_,_,_,_,_,_,q⟩<;>rw[h2,q] at h<;>dsimp only at h<;>omega
theorem Trace.readBox(T:Trace c G sl E Hs d cs X){j b:Nat}{so:SO}(hs:sl[j]? =some so)(hx:X j=false)(h:(cs j).1=3+2*b)(hg:evGuard (E j) so.g=some true){H2:Hp}(hb:H2.bx[b]? =(Hs j).bx[b]?):evKC c G (E j) H2 so.k=some (.val (d j),H2):=by
 rcases T.step j so hs with⟨h0,_,_,_⟩ |⟨_,h1,h2⟩
 ·rcases h0 with h0 |h0
  ·rw[h0] at hx;cases hx
  ·rw[h0] at hg;cases hg
 ·have hle:=cls_le (E j) so.k
  rcases clsP_cases (E j) (Hs j) (Hs (j+1)) so.k with⟨_,_,q⟩ |⟨_,m,hm,_,q⟩ |⟨hc,q⟩ |⟨_,q⟩ |⟨hkc,hcl,hlen,q⟩
  ·rw[h2,q] at h;dsimp only at h;omega
  ·rw[h2,q] at h;dsimp only at h;rw[h,isW_read'] at hm;cases hm
  rotate_left
  ·rw[h2,q] at h;dsimp only at h;omega
  ·rw[h2,q] at h;dsimp only at h;omega
  ·rw[q] at h2
   rcases clsR_cases (Hs j).bx.length (E j) so.k with q |⟨n,x,i,o,hk,hx,_,q⟩ |⟨_,_,_,_,_,_,_,_,q⟩ |⟨g,z,ok,m,kk,i,hk,hx,_,q⟩ |⟨_,_,q⟩ |⟨_,_,_,_,_,_,_,_,_,_,q⟩ |⟨_,_,_,_,_,_,q⟩
   ·rw[h2,q] at h;dsimp only at h;omega
   ·have hib:i=b:=by rw[h2,q] at h;dsimp only at h;omega
    subst hib
    rw[hk] at h1⊢
    rw[evKC_plain rfl] at h1⊢
    simp only[evK,hx,loadD] at h1⊢
    rw[hb]
    cases hc:(Hs j).bx[i]? with
    |none=>rw[hc] at h1;cases h1
    |some cells=>
     rw[hc] at h1
     simp only at h1⊢
     cases hd:(if isMapC cells=true then none else cutAt cells o n id mkAgg) with
     |none=>rw[hd] at h1;cases h1
     |some d0=>
      rw[hd] at h1
      simp only[Option.map_some,Option.some.injEq,Prod.mk.injEq,Res.val.injEq] at h1⊢
      exact⟨h1.1,trivial⟩
   ·rw[h2,q] at h;dsimp only at h;omega
   ·have hib:i=b:=by rw[h2,q] at h;dsimp only at h;omega
    subst hib
    rw[hk] at h1⊢
    rw[evKC_plain rfl] at h1⊢
    simp only[evK] at h1⊢
    have hq:mapgetD g z ok (m.ev (E j)) (kk.ev (E j)) H2=mapgetD g z ok (m.ev (E j)) (kk.ev (E j)) (Hs j):=by
     rw[hx];unfold mapgetD
     split
     ·rfl
     ·rename_i h1 _;cases h1;rw[hb]
     ·rfl
    rw[hq]
    cases hd:mapgetD g z ok (m.ev (E j)) (kk.ev (E j)) (Hs j) with
    |none=>rw[hd] at h1;cases h1
    |some d0=>
     rw[hd] at h1
     simp only[Option.map_some,Option.some.injEq,Prod.mk.injEq,Res.val.injEq] at h1⊢
     exact⟨h1.1,trivial⟩
   ·rw[h2,q] at h;dsimp only at h;omega
   ·rw[h2,q] at h;dsimp only at h;omega
   ·rw[h2,q] at h;dsimp only at h;omega
def insOf(e:Env):SK→Option (Nat×Nat×PD×D)
 | .mapins kd m k v=>match m.ev e,k.ev e with
  | .mapr i,.p q=>some (kd,i,q,v.ev e)
  |_,_=>none
 |_=>none
def insB(q:Nat×Nat×PD×D)(o:Option (List D)):Option (List D):=
 match o with
 |some [.mapc kd' ks vs]=>if keyKind q.2.2.1=q.1∧kd'=q.1∧q.1≠1∧findK q.2.2.1 ks=none∧vs.length=ks.length then
     some [.mapc q.1 (insAt (posK (keyCode q.2.2.1) ks) q.2.2.1 ks) (insAt (posK (keyCode q.2.2.1) ks) q.2.2.2 vs)] else o
 |o=>o
def insH(q:Nat×Nat×PD×D)(H:Hp):Hp:=
 match insB q (H.bx[q.2.1]?) with
 |some cs=>{H with bx:=H.bx.set q.2.1 cs}
 |none=>H
def insGood(q:Nat×Nat×PD×D)(o:Option (List D)):Prop:=∃ks vs,o=some [.mapc q.1 ks vs]∧keyKind q.2.2.1=q.1∧q.1≠1∧findK q.2.2.1 ks=none∧vs.length=ks.length
theorem insB_none{q:Nat×Nat×PD×D}{o:Option (List D)}(h:insB q o=none):o=none:=by
 unfold insB at h
 split at h
 ·split at h<;>cases h
 ·exact h
theorem insH_at{q:Nat×Nat×PD×D}{H:Hp}(b:Nat):(insH q H).bx[b]? =if q.2.1=b then insB q (H.bx[b]?) else H.bx[b]?:=by
 unfold insH
 split
 ·rename_i cs hcs
  show(H.bx.set q.2.1 cs)[b]? =_
  by_cases hb:q.2.1=b
  ·subst hb
   rw[if_pos rfl,hcs]
   have :q.2.1<H.bx.length:=by
    rcases Nat.lt_or_ge q.2.1 H.bx.length with h |h
    ·exact h
    ·rw[List.getElem?_eq_none h] at hcs;cases hcs
   rw[List.getElem?_set_self this]
  ·rw[if_neg hb,List.getElem?_set_ne hb]
 ·rename_i hcs
  split
  ·rename_i hb;subst hb;rw[insB_none hcs,←insB_none hcs,hcs];exact(insB_none hcs)
  ·rfl
theorem insH_run{q:Nat×Nat×PD×D}{H:Hp}(h:insGood q (H.bx[q.2.1]?)):mapinsD q.1 (.mapr q.2.1) (.p q.2.2.1) q.2.2.2 H=some (.undef,insH q H):=by
 obtain⟨ks,vs,h1,h2,h3,h4,h5⟩:=h
 have hb:insB q (H.bx[q.2.1]?)=some [.mapc q.1 (insAt (posK (keyCode q.2.2.1) ks) q.2.2.1 ks) (insAt (posK (keyCode q.2.2.1) ks) q.2.2.2 vs)]:=by
  rw[h1];simp[insB,h2,h3,h4,h5]
 unfold insH
 rw[hb]
 simp[mapinsD,h1,h2,h3,h4,h5]
theorem insOf_good{e:Env}{H H':Hp}{k:SK}{d:D}{q:Nat×Nat×PD×D}(hq:insOf e k=some q)(h:evKC c G e H k=some (.val d,H')):insGood q (H.bx[q.2.1]?)∧d= .undef∧H'=insH q H∧∀H2,evKC c G e H2 k=match mapinsD q.1 (.mapr q.2.1) (.p q.2.2.1) q.2.2.2 H2 with |some (d,H')=>some (.val d,H') |none=>none:=by
 cases k<;>first |(cases hq;done) |skip
 rename_i kd m kk v
 simp only[insOf] at hq
 split at hq
 ·rename_i i x hm hk
  cases hq
  have hev:∀H2,evKC c G e H2 (.mapins kd m kk v)=match mapinsD kd (.mapr i) (.p x) (v.ev e) H2 with |some (d,H')=>some (.val d,H') |none=>none:=fun H2=>by
   rw[evKC_plain rfl]
   (simp only[evK,hm,hk])<;>(cases mapinsD kd (.mapr i) (.p x) (v.ev e) H2<;>rfl)
  rw[hev] at h
  have hgood:insGood (kd,i,x,v.ev e) (H.bx[i]?):=by
   cases hmi:mapinsD kd (.mapr i) (.p x) (v.ev e) H with
   |none=>rw[hmi] at h;cases h
   |some r=>
    unfold mapinsD at hmi
    simp only at hmi
    split at hmi
    ·rename_i kd' ks vs hbx
     split at hmi
     ·rename_i hc
      obtain⟨h1,h2,h3,h4,h5⟩:=hc
      subst h2
      exact⟨ks,vs,hbx,h1,h3,h4,h5⟩
     ·cases hmi
    ·cases hmi
  rw[insH_run hgood] at h
  cases h
  exact⟨hgood,rfl,rfl,hev⟩
 ·cases hq
theorem Trace.ins(T:Trace c G sl E Hs d cs X){j:Nat}{so:SO}(hs:sl[j]? =some so)(h:(cs j).2≠0):∃q,insOf (E j) so.k=some q∧cs j=(4+2*q.2.1,keyCode q.2.2.1+1)∧evGuard (E j) so.g=some true∧evKC c G (E j) (Hs j) so.k=some (.val (d j),Hs (j+1)):=by
 rcases T.step j so hs with⟨_,_,_,h1⟩ |⟨hg,h1,h2⟩
 ·rw[h1] at h;exact absurd rfl h
 ·rcases clsP_cases (E j) (Hs j) (Hs (j+1)) so.k with⟨_,_,q⟩ |⟨_,_,_,_,q⟩ |⟨hc,q⟩ |⟨_,q⟩ |⟨hkc,hcl,hlen,q⟩
  ·rw[h2,q] at h;exact absurd rfl h
  ·rw[h2,q] at h;exact absurd rfl h
  rotate_left
  ·rw[h2,q] at h;exact absurd rfl h
  ·rw[h2,q] at h;exact absurd rfl h
  ·rw[q] at h2
   rcases clsR_cases (Hs j).bx.length (E j) so.k with q |⟨_,_,_,_,_,_,_,q⟩ |⟨_,_,_,_,_,_,_,_,q⟩ |⟨_,_,_,_,_,_,_,_,_,q⟩ |⟨_,_,q⟩ |⟨kd,m,kk,v,i,x,hk,hm,hx,hlt,q⟩ |⟨_,_,_,_,_,_,q⟩
   ·rw[h2,q] at h;exact absurd rfl h
   ·rw[h2,q] at h;exact absurd rfl h
   ·rw[h2,q] at h;exact absurd rfl h
   ·rw[h2,q] at h;exact absurd rfl h
   ·rw[h2,q] at h;exact absurd rfl h
   ·refine⟨(kd,i,x,v.ev (E j)),?_,h2.trans q,hg,h1⟩
    rw[hk]
    simp only[insOf,hm,hx]
   ·rw[h2,q] at h;exact absurd rfl h
theorem Trace.ins_lt(T:Trace c G sl E Hs d cs X){j:Nat}{so:SO}(hs:sl[j]? =some so)(h:(cs j).2≠0):∀q,insOf (E j) so.k=some q→q.2.1<2000000000:=by
 rcases T.step j so hs with⟨_,_,_,h1⟩ |⟨hg,h1,h2⟩
 ·rw[h1] at h;exact absurd rfl h
 ·rcases clsP_cases (E j) (Hs j) (Hs (j+1)) so.k with⟨_,_,q⟩ |⟨_,_,_,_,q⟩ |⟨hc,q⟩ |⟨_,q⟩ |⟨hkc,hcl,hlen,q⟩
  ·rw[h2,q] at h;exact absurd rfl h
  ·rw[h2,q] at h;exact absurd rfl h
  rotate_left
  ·rw[h2,q] at h;exact absurd rfl h
  ·rw[h2,q] at h;exact absurd rfl h
  ·rw[q] at h2
   rcases clsR_cases (Hs j).bx.length (E j) so.k with q |⟨_,_,_,_,_,_,_,q⟩ |⟨_,_,_,_,_,_,_,_,q⟩ |⟨_,_,_,_,_,_,_,_,_,q⟩ |⟨_,_,q⟩ |⟨kd,m,kk,v,i,x,hk,hm,hx,hlt,q⟩ |⟨_,_,_,_,_,_,q⟩
   ·rw[h2,q] at h;exact absurd rfl h
   ·rw[h2,q] at h;exact absurd rfl h
   ·rw[h2,q] at h;exact absurd rfl h
   ·rw[h2,q] at h;exact absurd rfl h
   ·rw[h2,q] at h;exact absurd rfl h
   ·intro q' hq'
    rw[hk] at hq'
    simp only[insOf,hm,hx,Option.some.injEq] at hq'
    subst hq'
    exact hlt
   ·rw[h2,q] at h;exact absurd rfl h
theorem offB_ne{b i:Nat}(h:offB b i=true):i≠b:=by
 unfold offB at h
 split at h
 ·exact fun e=>by simp[e] at h
 ·rw[Bool.and_eq_true] at h
  have:=of_decide_eq_true h.2
  omega
theorem bnd_not:∀{l:List Nat} {b:Nat},bnd l≤b→b∉l
 |[],_,_=>by simp
 |i::l,b,h=>by
  simp only[bnd] at h
  intro hm
  rcases List.mem_cons.1 hm with e |e
  ·omega
  ·exact bnd_not (by omega) e
theorem putAll_off{α:Type}:∀(is:List Nat) (l xs:List α) (b:Nat),b∉is→(putAll l is xs)[b]? =l[b]?
 |[],l,xs,b,_=>by cases xs<;>rfl
 |i::is,l,[],b,_=>rfl
 |i::is,l,x::xs,b,h=>by
  simp only[putAll]
  rw[putAll_off is _ xs b fun hm=>h (List.mem_cons_of_mem _ hm),List.getElem?_set_ne fun e=>h (by rw[e];exact List.mem_cons_self)]
theorem putAll_len{α:Type}:∀(is:List Nat) (l xs:List α),(putAll l is xs).length=l.length
 |[],l,xs=>by cases xs<;>rfl
 |i::is,l,[]=>rfl
 |i::is,l,x::xs=>by
  simp only[putAll]
  rw[putAll_len is]
  simp
theorem call_off{c:CallR}{e:Env}{H H':Hp}{k:SK}{d:D}(he:evKC c G e H k=some (.val d,H'))(hcl:isCl k=true)(hl:H'.bx.length=H.bx.length){b:Nat}(hb:b∉callIds e H k):H'.bx[b]? =H.bx[b]?:=by
 cases k<;>first |(cases hcl;done) |skip
 rename_i f as
 simp only[evKC] at he
 unfold callV at he
 split at he
 ·rename_i g first cap hg
  simp only[callIds,hg] at hb
  unfold callD at he
  dsimp only at he
  split at he
  ·split at he
   ·split at he
    ·unfold back at he
     split at he
     ·dsimp only at he
      split at he
      ·cases he
       exact putAll_off _ _ _ _ hb
      ·split at he
       ·cases he
        simp only[List.length_append,putAll_len,List.length_cons] at hl
        omega
       ·cases he
     ·cases he
    ·cases he
   ·cases he
  ·cases he
 ·cases he
theorem appendD_bx{e sz bytes:Nat}{s:D}{xs:List PD}{H H':Hp}{d:D}(h:appendD e sz bytes s xs H=some (d,H')):H'.bx=H.bx:=by
 unfold appendD at h
 split at h
 ·split at h<;>cases h;rfl
 ·split at h<;>cases h;rfl
 ·split at h<;>cases h;rfl
 ·cases h
theorem Trace.apart(T:Trace c G sl E Hs d cs X){j b i:Nat}{so:SO}(hs:sl[j]? =some so)(h:(cs j).1=4+2*i)(hoff:offB b i=true):(Hs (j+1)).bx[b]? =(Hs j).bx[b]?:=by
 have hne:=offB_ne hoff
 by_cases hz:(cs j).2≠0
 ·obtain⟨q,h1,h2,h3,h4⟩:=T.ins hs hz
  obtain⟨_,_,h5,_⟩:=insOf_good h1 h4
  rw[h5,insH_at,if_neg]
  rw[h2] at h
  dsimp only at h
  omega
 rcases T.step j so hs with⟨_,_,h1,_⟩ |⟨_,h1,h2⟩
 ·rw[h1]
 ·have hle:=cls_le (E j) so.k
  rcases clsP_cases (E j) (Hs j) (Hs (j+1)) so.k with⟨_,_,q⟩ |⟨hc0,m,hm,hm2,q⟩ |⟨hc,q⟩ |⟨_,q⟩ |⟨hkc,hcl,hlen,q⟩
  ·rw[h2,q] at h;dsimp only at h;omega
  ·rw[h2,q] at h;dsimp only at h
   rcases hm2 with hm2 |⟨hm2,hl⟩
   ·omega
   ·have hp:=evKC_pre h1 hc0
    by_cases hb:b<(Hs j).bx.length
    ·rw[←hp,List.getElem?_take_of_lt hb]
    ·rw[List.getElem?_eq_none (by omega),List.getElem?_eq_none (by omega)]
  rotate_left
  ·rw[h2,q] at h;dsimp only at h;omega
  ·rw[h2,q] at h
   dsimp only at h
   have hi:i=2000000000+bnd (callIds (E j) (Hs j) so.k):=by omega
   rw[hi] at hoff
   unfold offB at hoff
   rw[if_neg (by omega),Bool.and_eq_true] at hoff
   exact call_off h1 hcl hlen (bnd_not (by have:=of_decide_eq_true hoff.1;omega))
  ·rw[q] at h2
   rcases clsR_cases (Hs j).bx.length (E j) so.k with q |⟨_,_,_,_,_,_,_,q⟩ |⟨n,a,v,i',o,hk,ha,_,q⟩ |⟨_,_,_,_,_,_,_,_,_,q⟩ |⟨hn,_,q⟩ |⟨_,_,_,_,_,_,_,_,_,_,q⟩ |⟨el,sz,by_,s,x,hk,q⟩
   ·rw[h2,q] at h;dsimp only at h;omega
   ·rw[h2,q] at h;dsimp only at h;omega
   ·have hii:i'=i:=by rw[h2,q] at h;dsimp only at h;omega
    subst hii
    rw[hk,evKC_plain rfl] at h1
    simp only[evK,ha] at h1
    split at h1
    ·rename_i d0 H0 hd
     cases h1
     obtain⟨H1,hst,hh⟩:=Option.map_eq_some_iff.1 hd
     simp only[Prod.mk.injEq] at hh
     rw[←hh.2]
     unfold storeD at hst
     simp only at hst
     split at hst
     ·split at hst
      ·cases hst
       show(((Hs j).bx.set _ _)[b]?)=_
       rw[List.getElem?_set_ne hne]
      ·cases hst
     ·cases hst
    ·cases h1
   ·rw[h2,q] at h;dsimp only at h;omega
   ·have hii:(Hs j).bx.length=i:=by rw[h2,q] at h;dsimp only at h;omega
    have hkc:so.k.isCall=false:=by cases hk:so.k<;>rw[hk] at hn<;>first |rfl |cases hn
    rw[evKC_plain hkc] at h1
    split at h1
    ·rename_i d0 H0 hd
     cases h1
     obtain⟨x,hx⟩:=isNew_app hn hd
     rw[hx]
     by_cases hb:b<(Hs j).bx.length
     ·rw[List.getElem?_append_left hb]
     ·rw[List.getElem?_eq_none (by simp;omega),List.getElem?_eq_none (by omega)]
    ·cases h1
   ·rw[h2,q] at hz;exact absurd (fun e=>by cases e) hz
   ·rw[hk,evKC_plain rfl] at h1
    split at h1
    ·rename_i d0 H0 hd
     cases h1
     simp only[evK] at hd
     split at hd
     ·rw[appendD_bx hd]
     ·cases hd
    ·cases h1
theorem Trace.heapless(T:Trace c G sl E Hs d cs X){j:Nat}{so:SO}(hs:sl[j]? =some so)(h:so.k.heapless=true):cs j=(0,0):=by
 rcases T.step j so hs with⟨_,_,_,h1⟩ |⟨_,h1,h2⟩
 ·exact h1
 ·have hc:=cls_heapless (e:=E j) h
  have hk:so.k.isCall=false:=by cases hk:so.k<;>rw[hk] at h<;>first |rfl |cases h
  rw[evKC_plain hk,evK_heapless h] at h1
  split at h1
  ·rename_i hd
   cases h1
   obtain⟨x,hx,hh⟩:=Option.map_eq_some_iff.1 hd
   simp only[Prod.mk.injEq] at hh
   rw[h2]
   unfold clsP
   rw[if_pos hc,←hh.2,if_pos rfl]
  ·cases h1
def foldW{α:Type}(g0:α)(wr:Nat→Bool)(f:Nat→α→α)(l:Nat→Bool):Nat→α
 | 0=>g0
 |m+1=>if l m=true∧wr m=true then f m (foldW g0 wr f l m) else foldW g0 wr f l m
theorem foldW_congr{α:Type}{g0:α}{wr:Nat→Bool}{f:Nat→α→α}{l l':Nat→Bool}:∀(n:Nat),(∀j,j<n→wr j=true→l j=l' j)→foldW g0 wr f l n=foldW g0 wr f l' n
 | 0,_=>rfl
 |n+1,h=>by
  simp only[foldW]
  rw[foldW_congr n fun j hj hw=>h j (by omega) hw]
  by_cases hw:wr n=true
  ·rw[h n (by omega) hw]
  ·simp[hw]
theorem foldW_below{α:Type}{g0:α}{wr:Nat→Bool}{f:Nat→α→α}{i:Nat}:∀(n:Nat),i≤n→foldW g0 wr f (fun j=>decide (j<i)) n=foldW g0 wr f (fun _=>true) i
 | 0,h=>by
  have :i=0:=by omega
  subst this;rfl
 |n+1,h=>by
  by_cases hi:i=n+1
  ·subst hi
   exact foldW_congr (n+1) fun j hj _=>by simp[hj]
  ·simp only[foldW]
   rw[if_neg (by simp;omega),foldW_below n (by omega)]
theorem foldW_at{α:Type}{g0:α}{wr:Nat→Bool}{f:Nat→α→α}{l:Nat→Bool}{i:Nat}{x:α}(hl:l i=true)(hw:wr i=true)(hf:∀h,f i h=x):∀(n:Nat),i<n→(∀j,i<j→j<n→wr j=true→l j=false)→foldW g0 wr f l n=x
 | 0,h,_=>by omega
 |n+1,h,q=>by
  simp only[foldW]
  by_cases hi:i=n
  ·subst hi;rw[if_pos ⟨hl,hw⟩];exact hf _
  ·rw[if_neg (fun x=>by have:=q n (by omega) (by omega) x.2;rw[this] at x;exact absurd x.1 (by simp)),foldW_at hl hw hf n (by omega) fun j h1 h2 h3=>q j h1 (by omega) h3]
def effH(sl:List SO)(E:Nat→Env)(Hs:Nat→Hp)(cs:Nat→Nat×Nat)(j:Nat)(h:Hp):Hp:=
 if(cs j).2=0 then Hs (j+1) else match(sl[j]?).bind fun so=>insOf (E j) so.k with
  |some q=>insH q h
  |none=>Hs (j+1)
theorem effH_plain{j:Nat}{h:Hp}(hz:(cs j).2=0):effH sl E Hs cs j h=Hs (j+1):=by simp[effH,hz]
theorem effH_ins{j:Nat}{so:SO}{q:Nat×Nat×PD×D}{h:Hp}(hs:sl[j]? =some so)(hz:(cs j).2≠0)(hq:insOf (E j) so.k=some q):effH sl E Hs cs j h=insH q h:=by simp[effH,hz,hs,hq]
theorem Trace.eff(T:Trace c G sl E Hs d cs X){j:Nat}{so:SO}(hs:sl[j]? =some so):effH sl E Hs cs j (Hs j)=Hs (j+1):=by
 by_cases hz:(cs j).2=0
 ·exact effH_plain hz
 ·obtain⟨q,h1,h2,h3,h4⟩:=T.ins hs hz
  rw[effH_ins hs hz h1]
  exact(insOf_good h1 h4).2.2.1.symm
def wrT(sl:List SO)(t:Nat)(j:Nat):Bool:=((sl[j]?).bind (·.dst))==some t
theorem Trace.get(T:Trace c G sl E Hs d cs X)(t:Nat):∀j,j≤sl.length→(E j).get t=lastW ((E 0).get t) (wrT sl t) d (fun _=>true) j
 | 0,_=>rfl
 |j+1,h=>by
  have hs:sl[j]? =some sl[j]:=List.getElem?_eq_getElem (by omega)
  simp only[lastW]
  rw[T.env j _ hs,←T.get t j (by omega)]
  simp only[wrT,hs,Option.bind_some,true_and,beq_iff_eq]
  cases hd:(sl[j]).dst with
  |none=>simp[put]
  |some u=>simp only[put,Env.get,Option.some.injEq]
theorem Trace.heap(T:Trace c G sl E Hs d cs X):∀j,j≤sl.length→Hs j=foldW (Hs 0) (fun j=>isW (cs j).1) (effH sl E Hs cs) (fun _=>true) j
 | 0,_=>rfl
 |j+1,h=>by
  have hs:sl[j]? =some sl[j]:=List.getElem?_eq_getElem (by omega)
  simp only[foldW,true_and]
  rw[←T.heap j (by omega)]
  split
  ·exact(T.eff hs).symm
  ·rename_i hc
   rw[T.quiet hs (by simpa using hc)]
end
end Go.Vs
namespace Go.Vs
variable {P : Program} {W : World} {G : Nat → Option (List PD)}
def lst(L:Array Bool)(i:Nat):Bool:=L.getD i false
theorem lst_set{L:Array Bool}{i:Nat}(hi:i<L.size)(j:Nat):lst (L.setIfInBounds i true) j=if i=j then true else lst L j:=by
 simp only[lst,Array.getD_eq_getD_getElem?,Array.getElem?_setIfInBounds]
 split
 ·rename_i h;subst h;simp
 ·rfl
theorem mem_ready{ops:Array Oper}{L:Array Bool}(hL:L.size=ops.size){i:Nat}(h:i∈Region.ready .any ops L):∃o,ops[i]? =some o∧i<ops.size∧lst L i=false∧∀p∈predsOf o,lst L p=true:=by
 simp only[Region.ready,List.mem_filter,List.mem_range,Bool.and_eq_true,Bool.not_eq_true'] at h
 obtain⟨hi,h1,h2⟩:=h
 have ho:ops[i]? =some ops[i]:=Array.getElem?_eq_getElem hi
 rw[ho] at h2
 simp only[Option.map_some,Option.getD_some] at h2
 refine⟨_,ho,hi,?_,fun p hp=>?_⟩
 ·have hiL:i<L.size:=by omega
  simp only[lst,Array.getD_eq_getD_getElem?,Array.getElem?_eq_getElem hiL,Option.getD_some] at h1⊢
  exact h1
 ·simp only[predsOf,List.mem_map,List.mem_filter,Array.mem_toList_iff] at hp
  obtain⟨e,⟨he,hb⟩,rfl⟩:=hp
  have:=(Array.all_eq_true'.1 h2) e he
  simpa[hb,lst] using this
theorem ready_of{ops:Array Oper}{L:Array Bool}(hL:L.size=ops.size){i:Nat}{o:Oper}(ho:ops[i]? =some o)(hl:lst L i=false)(hp:∀p∈predsOf o,lst L p=true):i∈Region.ready .any ops L:=by
 have hi:i<ops.size:=(Array.getElem?_eq_some_iff.1 ho).1
 simp only[Region.ready,List.mem_filter,List.mem_range,Bool.and_eq_true,Bool.not_eq_true']
 refine⟨hi,?_,?_⟩
 ·have hiL:i<L.size:=by omega
  simp only[lst,Array.getD_eq_getD_getElem?,Array.getElem?_eq_getElem hiL,Option.getD_some] at hl⊢
  exact hl
 ·rw[ho]
  simp only[Option.map_some,Option.getD_some]
  refine Array.all_eq_true'.2 fun e he=>?_
  by_cases hb:Region.binds .any e=true
  ·have:=hp e.on (List.mem_map.2 ⟨e,List.mem_filter.2 ⟨by simpa using he,hb⟩,rfl⟩)
   simpa[hb,lst] using this
  ·simp[hb]
def left(l:Nat→Bool):Nat→Nat
 | 0=>0
 |n+1=>left l n+if l n then 0 else 1
theorem left_zero{l:Nat→Bool}:∀{n:Nat},left l n=0→∀j,j<n→l j=true
 |n+1,h,j,hj=>by
  simp only[left] at h
  by_cases hjn:j=n
  ·subst hjn;cases hl:l j<;>simp_all
  ·exact left_zero (n:=n) (by omega) j (by omega)
theorem left_set{l l':Nat→Bool}{i:Nat}(hi:l i=false)(hs:∀j,l' j=if i=j then true else l j):∀{n:Nat},(i<n→left l' n+1=left l n)∧(n≤i→left l' n=left l n)
 | 0=>⟨fun h=>by omega,fun _=>rfl⟩
 |n+1=>by
  obtain⟨h1,h2⟩:=left_set hi hs (n:=n)
  simp only[left,hs n]
  refine⟨fun h=>?_,fun h=>?_⟩
  ·by_cases hn:i=n
   ·subst hn;rw[h2 (by omega)];simp[hi]
   ·rw[if_neg hn,←h1 (by omega)];omega
  ·have hne:¬i=n:=by omega
   rw[if_neg hne,h2 (by omega)]
theorem least_left{l:Nat→Bool}:∀(n:Nat),(∃j,j<n∧l j=false)→∃j,j<n∧l j=false∧∀k,k<j→l k=true
 | 0,⟨j,h,_⟩=>by omega
 |n+1,⟨j,h,hj⟩=>by
  by_cases q:∃j,j<n∧l j=false
  ·obtain⟨k,h1,h2,h3⟩:=least_left n q
   exact⟨k,by omega,h2,h3⟩
  ·refine⟨j,h,hj,fun k hk=>?_⟩
   cases hl:l k with
   |true=>rfl
   |false=>exact absurd ⟨k,by omega,hl⟩ q
theorem isW_read(i:Nat):isW (3+2*i)=false:=by
 simp only[isW,Bool.or_eq_false_iff,Bool.and_eq_false_iff,decide_eq_false_iff_not,beq_eq_false_iff_ne]
 omega
def touches(b c:Nat):Bool:=isW c&&(c==2|| !offB b ((c-4)/2))
theorem touches_isW{b c:Nat}(h:touches b c=true):isW c=true:=(Bool.and_eq_true_iff.1 h).1
theorem untouched{b c:Nat}(h:touches b c=false):isW c=false∨∃i,c=4+2*i∧offB b i=true:=by
 cases hw:isW c with
 |false=>exact .inl rfl
 |true=>
  right
  simp only[touches,hw,Bool.true_and,Bool.or_eq_false_iff,beq_eq_false_iff_ne,Bool.not_eq_false'] at h
  simp only[isW,Bool.or_eq_true,beq_iff_eq,Bool.and_eq_true,decide_eq_true_eq] at hw
  exact⟨(c-4)/2,by omega,h.2⟩
theorem touches_one{b i:Nat}(hi:i<2000000000):touches b (4+2*i)=(b==i):=by
 have hw:isW (4+2*i)=true:=isW_write i
 have h2:(4+2*i==2)=false:=by simp;omega
 have h3:(4+2*i-4)/2=i:=by omega
 simp only[touches,hw,h2,h3,offB,if_pos hi,Bool.true_and,Bool.false_or]
 cases h:b==i<;>simp[bne,h]
theorem apartWW_comm(a b:Nat×Nat):apartWW a b=apartWW b a:=by
 rw[Bool.eq_iff_iff]
 simp only[apartWW,Bool.and_eq_true,bne_iff_ne,beq_iff_eq]
 constructor<;>rintro⟨⟨⟨h1,h2⟩,h3⟩,h4⟩<;>exact⟨⟨⟨h2,h1⟩,h3.symm⟩,fun e=>h4 e.symm⟩
theorem clash_comm(a b:Nat×Nat):clash a b=clash b a:=by
 simp only[clash]
 rw[Bool.and_comm (a.1 !=0),Bool.or_comm (isW a.1),Bool.or_comm (apartRW a.1 b.1),apartWW_comm a b]
theorem clash_ne{a b:Nat×Nat}(h:clash a b=true):a.1≠0∧b.1≠0:=by
 simp only[clash,Bool.and_eq_true,bne_iff_ne] at h
 exact h.1.1.1
theorem apart_l{a b:Nat}(h:apartRW a b=true):(∃i,a=3+2*i)∧isW a=false∧isW b=true:=by
 simp only[apartRW,Bool.and_eq_true,decide_eq_true_eq,beq_iff_eq] at h
 refine⟨⟨(a-3)/2,by omega⟩,?_,?_⟩
 ·simp only[isW,Bool.or_eq_false_iff,Bool.and_eq_false_iff,decide_eq_false_iff_not,beq_eq_false_iff_ne];omega
 ·simp only[isW,Bool.or_eq_true,Bool.and_eq_true,decide_eq_true_eq,beq_iff_eq];omega
theorem isW_ne{b:Nat}(h:isW b=true):b≠0:=fun e=>by subst e;cases h
theorem notWW{a b:Nat×Nat}(h:a.2=0∨b.2=0∨a.1≠b.1∨a.2=b.2):apartWW a b=false:=by
 cases q:apartWW a b with
 |false=>rfl
 |true=>
  simp only[apartWW,Bool.and_eq_true,bne_iff_ne,beq_iff_eq] at q
  obtain⟨⟨⟨h1,h2⟩,h3⟩,h4⟩:=q
  rcases h with h |h |h |h
  ·exact absurd h h1
  ·exact absurd h h2
  ·exact absurd h3 h
  ·exact absurd h h4
theorem clash_any{a b:Nat×Nat}(h0:a.1≠0)(hn:∀i,a.1≠3+2*i)(h2:a.2=0)(h:isW b.1=true):clash a b=true:=by
 simp only[clash,Bool.and_eq_true,bne_iff_ne,Bool.or_eq_true,Bool.not_eq_true',Bool.or_eq_false_iff]
 refine⟨⟨⟨⟨h0,isW_ne h⟩,.inr h⟩,?_,?_⟩,notWW (.inl h2)⟩
 ·cases q:apartRW a.1 b.1 with
  |false=>rfl
  |true=>obtain⟨⟨i,hi⟩,_⟩:=apart_l q;exact absurd hi (hn i)
 ·cases q:apartRW b.1 a.1 with
  |false=>rfl
  |true=>obtain⟨_,h1,_⟩:=apart_l q;rw[h] at h1;cases h1
theorem clash_ww{a b:Nat×Nat}(ha:isW a.1=true)(hb:isW b.1=true)(h2:a.2=0∨b.2=0∨a.1≠b.1∨a.2=b.2):clash a b=true:=by
 simp only[clash,Bool.and_eq_true,bne_iff_ne,Bool.or_eq_true,Bool.not_eq_true',Bool.or_eq_false_iff]
 refine⟨⟨⟨⟨isW_ne ha,isW_ne hb⟩,.inr hb⟩,?_,?_⟩,notWW h2⟩
 ·cases q:apartRW a.1 b.1 with
  |false=>rfl
  |true=>obtain⟨_,h1,_⟩:=apart_l q;rw[ha] at h1;cases h1
 ·cases q:apartRW b.1 a.1 with
  |false=>rfl
  |true=>obtain⟨_,h1,_⟩:=apart_l q;rw[hb] at h1;cases h1
theorem clash_touch{b:Nat}{a c:Nat×Nat}(ha:a.1=3+2*b)(h:touches b c.1=true):clash a c=true:=by
 have hw:=touches_isW h
 have h0:=h
 simp only[touches,Bool.and_eq_true,Bool.or_eq_true,beq_iff_eq,Bool.not_eq_true'] at h
 simp only[clash,Bool.and_eq_true,bne_iff_ne,Bool.or_eq_true,Bool.not_eq_true',Bool.or_eq_false_iff]
 refine⟨⟨⟨⟨by omega,isW_ne hw⟩,.inr hw⟩,?_,?_⟩,notWW (.inr (.inr (.inl (fun e=>by rw[←e,ha,isW_read] at hw;cases hw))))⟩
 ·cases q:apartRW a.1 c.1 with
  |false=>rfl
  |true=>
   simp only[apartRW,Bool.and_eq_true,decide_eq_true_eq,beq_iff_eq] at q
   rw[ha,show(3+2*b-3)/2=b by omega] at q
   rcases h.2 with h2 |h2
   ·omega
   ·rw[h2] at q;exact absurd q.2 (by simp)
 ·cases q:apartRW c.1 a.1 with
  |false=>rfl
  |true=>obtain⟨_,h1,_⟩:=apart_l q;rw[hw] at h1;cases h1
theorem keyEq_code{a b:PD}(h:keyEq a b=true):keyCode a=keyCode b:=by
 unfold keyEq at h
 split at h
 ·simp at h;subst h;rfl
 ·simp at h;subst h;rfl
 ·simp at h;subst h;rfl
 ·cases h
theorem findK_insAt{k x:PD}:∀(p:Nat) (l:List PD),p≤l.length→(findK k (insAt p x l)=none↔findK k l=none∧keyEq k x=false)
 | 0,l,_=>by
  simp only[insAt,findK]
  cases keyEq k x<;>simp
 |p+1,[],h=>by simp at h
 |p+1,a::l,h=>by
  have:=findK_insAt (k:=k) (x:=x) p l (by simpa using h)
  simp only[insAt,findK]
  cases keyEq k a with
  |true=>simp
  |false=>simpa using this
theorem insAt_comm{α:Type}{k1 k2:PD}(hne:keyCode k1≠keyCode k2)(y1 y2:α):∀(ks:List PD) (zs:List α),zs.length=ks.length→
    insAt (posK (keyCode k1) (insAt (posK (keyCode k2) ks) k2 ks)) y1 (insAt (posK (keyCode k2) ks) y2 zs)=insAt (posK (keyCode k2) (insAt (posK (keyCode k1) ks) k1 ks)) y2 (insAt (posK (keyCode k1) ks) y1 zs)
 |[],[],_=>by
  by_cases h:keyCode k1<keyCode k2
  ·have h':¬keyCode k2<keyCode k1:=by omega
   simp[posK,insAt,h,h']
  ·have h':keyCode k2<keyCode k1:=by omega
   simp[posK,insAt,h,h']
 |a::ks,z::zs,hl=>by
  have ih:=insAt_comm hne y1 y2 ks zs (by simpa using hl)
  by_cases h1:keyCode k1<keyCode a
  ·by_cases h2:keyCode k2<keyCode a
   ·by_cases h:keyCode k1<keyCode k2
    ·have h':¬keyCode k2<keyCode k1:=by omega
     simp[posK,insAt,h,h',h1,h2]
    ·have h':keyCode k2<keyCode k1:=by omega
     simp[posK,insAt,h,h',h1,h2]
   ·have h':¬keyCode k2<keyCode k1:=by omega
    simp[posK,insAt,h',h1,h2]
  ·by_cases h2:keyCode k2<keyCode a
   ·have h':¬keyCode k1<keyCode k2:=by omega
    simp[posK,insAt,h',h1,h2]
   ·simp[posK,insAt,h1,h2,ih]
 |[],_::_,h=>by simp at h
 |_::_,[],h=>by simp at h
section
variable {q1 q2 : Nat × Nat × PD × D} (hne : keyCode q1.2.2.1 ≠ keyCode q2.2.2.1)
include hne
theorem insB_cond{ks:List PD}{vs:List D}:(findK q1.2.2.1 (insAt (posK (keyCode q2.2.2.1) ks) q2.2.2.1 ks)=none∧(insAt (posK (keyCode q2.2.2.1) ks) q2.2.2.2 vs).length=(insAt (posK (keyCode q2.2.2.1) ks) q2.2.2.1 ks).length)↔(findK q1.2.2.1 ks=none∧vs.length=ks.length):=by
 have hk:keyEq q1.2.2.1 q2.2.2.1=false:=by
  cases h:keyEq q1.2.2.1 q2.2.2.1 with
  |false=>rfl
  |true=>exact absurd (keyEq_code h) hne
 rw[findK_insAt _ _ (posK_le _ _),insAt_len,insAt_len,hk]
 simp
theorem insGood_ins{o:Option (List D)}:insGood q1 (insB q2 o)↔insGood q1 o:=by
 have key:∀{kd:Nat} {ks:List PD} {vs:List D},insGood q1 (some [.mapc kd ks vs])↔kd=q1.1∧keyKind q1.2.2.1=q1.1∧q1.1≠1∧findK q1.2.2.1 ks=none∧vs.length=ks.length:=by
  intro kd ks vs
  constructor
  ·rintro⟨ks',vs',h,h1,h2,h3,h4⟩
   simp only[Option.some.injEq,List.cons.injEq,D.mapc.injEq,and_true] at h
   obtain⟨rfl,rfl,rfl⟩:=h
   exact⟨rfl,h1,h2,h3,h4⟩
  ·rintro⟨rfl,h1,h2,h3,h4⟩
   exact⟨ks,vs,rfl,h1,h2,h3,h4⟩
 unfold insB
 split
 ·rename_i kd ks vs
  split
  ·rename_i hc
   obtain⟨c1,c2,c3,c4,c5⟩:=hc
   rw[key,key,insB_cond hne,c2]
  ·rfl
 ·rfl
theorem insB_comm(o:Option (List D)):insB q1 (insB q2 o)=insB q2 (insB q1 o):=by
 have hne':keyCode q2.2.2.1≠keyCode q1.2.2.1:=fun e=>hne e.symm
 have at1:∀(q:Nat×Nat×PD×D) kd ks vs,insB q (some [.mapc kd ks vs])=if keyKind q.2.2.1=q.1∧kd=q.1∧q.1≠1∧findK q.2.2.1 ks=none∧vs.length=ks.length then
     some [.mapc q.1 (insAt (posK (keyCode q.2.2.1) ks) q.2.2.1 ks) (insAt (posK (keyCode q.2.2.1) ks) q.2.2.2 vs)] else some [.mapc kd ks vs]:=fun q kd ks vs=>rfl
 by_cases hsh:∃kd ks vs,o=some [.mapc kd ks vs]
 ·obtain⟨kd,ks,vs,rfl⟩:=hsh
  rw[at1 q1,at1 q2]
  by_cases h1:keyKind q1.2.2.1=q1.1∧kd=q1.1∧q1.1≠1∧findK q1.2.2.1 ks=none∧vs.length=ks.length
  ·by_cases h2:keyKind q2.2.2.1=q2.1∧kd=q2.1∧q2.1≠1∧findK q2.2.2.1 ks=none∧vs.length=ks.length
   ·rw[if_pos h1,if_pos h2,at1,at1]
    obtain⟨a1,a2,a3,a4,a5⟩:=h1
    obtain⟨b1,b2,b3,b4,b5⟩:=h2
    have e:q1.1=q2.1:=a2.symm.trans b2
    rw[if_pos ⟨a1,e.symm,a3,(insB_cond hne).2 ⟨a4,a5⟩⟩,if_pos ⟨b1,e,b3,(insB_cond hne').2 ⟨b4,b5⟩⟩]
    rw[insAt_comm hne q1.2.2.1 q2.2.2.1 ks ks rfl,insAt_comm hne q1.2.2.2 q2.2.2.2 ks vs a5,e]
   ·rw[if_pos h1,if_neg h2,at1,at1,if_pos h1,if_neg]
    rintro⟨b1,b2,b3,b4⟩
    exact h2 ⟨b1,h1.2.1.trans b2,b3,(insB_cond hne').1 b4⟩
  ·by_cases h2:keyKind q2.2.2.1=q2.1∧kd=q2.1∧q2.1≠1∧findK q2.2.2.1 ks=none∧vs.length=ks.length
   ·rw[if_neg h1,if_pos h2,at1,at1,if_pos h2,if_neg]
    rintro⟨b1,b2,b3,b4⟩
    exact h1 ⟨b1,h2.2.1.trans b2,b3,(insB_cond hne).1 b4⟩
   ·rw[if_neg h1,if_neg h2,at1,at1,if_neg h1,if_neg h2]
 ·have no:∀q,insB q o=o:=fun q=>by
   unfold insB
   split
   ·exact absurd ⟨_,_,_,rfl⟩ hsh
   ·rfl
  rw[no,no,no]
theorem insH_comm(hb:q1.2.1=q2.2.1)(h:Hp):insH q1 (insH q2 h)=insH q2 (insH q1 h):=by
 have tk:∀q (h:Hp),(insH q h).tk=h.tk:=fun q h=>by unfold insH;split<;>rfl
 have e1:(insH q1 (insH q2 h)).bx=(insH q2 (insH q1 h)).bx:=by
  refine List.ext_getElem? fun b=>?_
  rw[insH_at,insH_at,insH_at,insH_at]
  by_cases hq:q1.2.1=b
  ·have hq2:q2.2.1=b:=hb▸hq
   rw[if_pos hq,if_pos hq2,if_pos hq2,if_pos hq]
   exact insB_comm hne _
  ·have hq2:¬q2.2.1=b:=hb▸hq
   rw[if_neg hq,if_neg hq2,if_neg hq2,if_neg hq]
 have e2:(insH q1 (insH q2 h)).tk=(insH q2 (insH q1 h)).tk:=by rw[tk,tk,tk,tk]
 cases ha:insH q1 (insH q2 h)
 cases hc:insH q2 (insH q1 h)
 rw[ha,hc] at e1 e2
 simp only at e1 e2
 rw[e1,e2]
end
theorem foldW_pos{α:Type}{g0:α}{wr:Nat→Bool}{f:Nat→α→α}{l:Nat→Bool}{m:Nat}(h:l m=true∧wr m=true):foldW g0 wr f l (m+1)=f m (foldW g0 wr f l m):=if_pos h
theorem foldW_neg{α:Type}{g0:α}{wr:Nat→Bool}{f:Nat→α→α}{l:Nat→Bool}{m:Nat}(h:¬(l m=true∧wr m=true)):foldW g0 wr f l (m+1)=foldW g0 wr f l m:=if_neg h
theorem insOk_ne:∀{cs:List (Nat×Nat)},insOk cs=true→∀(i j:Nat),i≠j→(cs.getD i (0,0)).2≠0→cs.getD i (0,0)≠cs.getD j (0,0)
 |[],_,i,j,_,h=>by simp at h
 |c::r,hk,i,j,hij,h=>by
  simp only[insOk,Bool.and_eq_true,Bool.or_eq_true,beq_iff_eq,Bool.not_eq_true'] at hk
  have mem:∀m,(r.getD m (0,0)).2≠0→r.getD m (0,0)∈r:=fun m hm=>by
   simp only[List.getD_eq_getElem?_getD] at hm⊢
   cases hr:r[m]? with
   |none=>rw[hr] at hm;simp at hm
   |some x=>simpa using List.mem_of_getElem? hr
  match i,j with
  | 0,0=>exact absurd rfl hij
  | 0,j+1=>
   simp only[List.getD_cons_zero,List.getD_cons_succ] at h⊢
   intro e
   rcases hk.1 with q |q
   ·exact h q
   ·have:=mem j (by rw[←e];exact h)
    rw[←e] at this
    simp[this] at q
  |i+1,0=>
   simp only[List.getD_cons_zero,List.getD_cons_succ] at h⊢
   intro e
   rcases hk.1 with q |q
   ·rw[e] at h;exact h q
   ·have:=mem i h
    rw[e] at this
    simp[this] at q
  |i+1,j+1=>
   simp only[List.getD_cons_succ] at h⊢
   exact insOk_ne hk.2 i j (by omega) h
theorem unwritten_get(ops:List SO)(e:Env)(t:Nat):(unwritten ops e).get t=if(ops.any fun o=>o.dst==some t)=true then .dead else e.get t:=by
 induction e with
 |nil=>simp[unwritten,Env.get]
 |cons y e ih=>
  obtain⟨s,x⟩:=y
  simp only[unwritten,List.filter_cons] at ih⊢
  by_cases hs:s=t
  ·subst hs
   by_cases h:(ops.any fun o=>o.dst==some s)=true
   ·rw[if_pos h] at ih⊢
    simpa[h] using ih
   ·rw[if_neg h]
    simp[h,Env.get]
  ·split
   ·simp only[Env.get,if_neg hs];exact ih
   ·rw[ih];simp only[Env.get,if_neg hs]
theorem lastW_none{α:Type}{g0:α}{wr:Nat→Bool}{d:Nat→α}{l:Nat→Bool}:∀{n:Nat},(∀j,j<n→wr j=true→False)→lastW g0 wr d l n=g0
 | 0,_=>rfl
 |n+1,h=>by
  simp only[lastW]
  rw[if_neg fun hw=>h n (by omega) hw.2,lastW_none fun j hj=>h j (by omega)]
theorem draw_wpX{c:CallR}(S:Sound P W G c){ops:Array Oper}{sl:List SO}{nt:Nat}(hlen:ops.size=sl.length)(hof:∀(i:Nat) o so,ops[i]? =some o→sl[i]? =some so→OpOf P ops nt o so)
    (hlt:∀(j:Nat) o' t,ops[j]? =some o'→o'.dst=some t→t<nt) {pairs:List (Nat×Nat)} (hok:drawOk pairs ops.toList sl=true) {E:Nat→Env} {Hs:Nat→Hp} {d:Nat→D} {cs:List (Nat×Nat)} {X:Nat→Bool}
    (T:Trace c G sl E Hs d (fun j=>cs.getD j (0,0)) X)
    (hp0:pairsOk pairs cs=true) {γ:Gh} {a:Act} {w:World} (I:InvS W G γ (Hs 0) w) (En:EnvRep γ (E 0) a.tmps) (hn:a.tmps.size=nt) {Q:Exit→Act→World→Prop}
    (hX:∀(i:Nat) so,sl[i]? =some so→X i=true→
     (∃j so',j<i∧X j=true∧sl[j]? =some so'∧slotClash so' so=true)∨
     (∃j so',j<i∧X j=true∧sl[j]? =some so'∧so'.k.heapless=false∧so.k.heapless=false∧(j,i)∉pairs)∨
     (so.k.heapless=false∧(∀j,j<sl.length→j≠i→isW (cs.getD j (0,0)).1=true→j<i∧(j,i)∉pairs)∧evGuard (E i) so.g=some true∧∃dv H1,evKC c G (E i) (Hs i) so.k=some (.pan dv,H1)∧
      ∀γ' v a' w',γ.le γ'→Frame γ (Hs 0) w γ' H1 w'→InvS W G γ' H1 w'→RepD γ' v dv→EnvRep γ' (unwritten sl (E 0)) a'.tmps→a'.tmps.size=nt→a'.defers=a.defers→Q (.panic [{v,recovered:=false}]) a' w'))
    (hQ:(∀i,i<ops.size→X i=false)→∀γ' a' w',γ.le γ'→Frame γ (Hs 0) w γ' (Hs sl.length) w'→InvS W G γ' (Hs sl.length) w'→EnvRep γ' (E sl.length) a'.tmps→a'.tmps.size=nt→a'.defers=a.defers→Q .normal a' w'):
    wpAny P .any ops Q ops.size (Array.replicate ops.size false) a w:=by
 obtain⟨R,hR⟩:=drawOk_iff hok
 have getO:∀i,i<ops.size→∃o b,ops[i]? =some o∧ops.toList[i]? =some o∧sl[i]? =some b:=fun i hi=>
  ⟨ops[i],sl[i]'(by omega),Array.getElem?_eq_getElem hi,by simp[hi],List.getElem?_eq_getElem (by omega)⟩
 unfold pairsOk at hp0
 rw[Bool.and_eq_true] at hp0
 obtain⟨hp,hins⟩:=hp0
 have hpair:∀(j i:Nat),(j,i)∈pairs→clash (cs.getD j (0,0)) (cs.getD i (0,0))=false:=fun j i h=>by simpa using List.all_eq_true.1 hp (j,i) h
 have huniq:=insOk_ne hins
 generalize hcf:(fun j=>cs.getD j (0,0))=cf at T
 have hcf':∀j,cs.getD j (0,0)=cf j:=fun j=>by rw[←hcf]
 simp only[hcf'] at huniq hX
 have key:∀(fuel:Nat) (L:Array Bool) (γ1:Gh) (a1:Act) (w1:World),L.size=ops.size→left (lst L) ops.size=fuel→
     (∀i,i<ops.size→lst L i=true→∀j,j<i→R i j=true→lst L j=true)→(∀i,i<ops.size→X i=true→lst L i=false)→
     γ.le γ1→Frame γ (Hs 0) w γ1 (foldW (Hs 0) (fun j=>isW (cf j).1) (effH sl E Hs cf) (lst L) ops.size) w1→InvS W G γ1 (foldW (Hs 0) (fun j=>isW (cf j).1) (effH sl E Hs cf) (lst L) ops.size) w1→
     (∀t,RepD γ1 (a1.tmps.getD t undef) (lastW ((E 0).get t) (wrT sl t) d (lst L) ops.size))→a1.tmps.size=nt→a1.defers=a.defers→
     wpAny P .any ops Q fuel L a1 w1:=by
  intro fuel
  induction fuel with
  |zero=>
   intro L γ1 a1 w1 hL hleft hcl hnx hle hF hI hE hsz hdf
   have hall:=left_zero hleft
   refine⟨?_,?_⟩
   ·refine List.eq_nil_iff_forall_not_mem.2 fun i hi=>?_
    obtain⟨o,_,h1,h2,_⟩:=mem_ready hL hi
    rw[hall i h1] at h2;cases h2
   ·have e1:∀t,lastW ((E 0).get t) (wrT sl t) d (lst L) ops.size=(E sl.length).get t:=fun t=>by
     rw[T.get t _ (Nat.le_refl _),←hlen]
     exact lastW_congr _ fun j hj _=>hall j hj
    have e2:foldW (Hs 0) (fun j=>isW (cf j).1) (effH sl E Hs cf) (lst L) ops.size=Hs sl.length:=by
     rw[T.heap _ (Nat.le_refl _),←hlen]
     exact foldW_congr _ fun j hj _=>hall j hj
    rw[e2] at hF hI
    exact hQ (fun i hi=>by
     cases hx:X i with
     |false=>rfl
     |true=>have:=hnx i hi hx;rw[hall i hi] at this;cases this) γ1 a1 w1 hle hF hI (fun t=>by rw[←e1 t];exact hE t) hsz hdf
  |succ fuel ih=>
   intro L γ1 a1 w1 hL hleft hcl hnx hle hF hI hE hsz hdf
   refine⟨fun hnil=>?_,fun i hi=>?_⟩
   ·exfalso
    have hex:∃j,j<ops.size∧lst L j=false:=by
     refine Classical.byContradiction fun hne=>?_
     have hz:∀n,n≤ops.size→left (lst L) n=0:=by
      intro n
      induction n with
      |zero=>intro _;rfl
      |succ n ihn=>
       intro hn
       have :lst L n=true:=by
        cases hl:lst L n with
        |true=>rfl
        |false=>exact absurd ⟨n,by omega,hl⟩ hne
       simp only[left,this,if_true,ihn (by omega)]
     rw[hz _ (Nat.le_refl _)] at hleft
     omega
    obtain⟨j,h1,h2,h3⟩:=least_left _ hex
    obtain⟨o,b,ho,ho',hb⟩:=getO j h1
    have :j∈Region.ready .any ops L:=ready_of hL ho h2 fun p hp=>h3 p ((hR j o b ho' hb).1 p hp)
    rw[hnil] at this
    cases this
   ·obtain⟨o,ho,hilt,hil,hpr⟩:=mem_ready hL hi
    obtain⟨o2,so,ho2,hol,hso⟩:=getO i hilt
    have :o2=o:=by rw[ho] at ho2;cases ho2;rfl
    subst this
    have hofi:=hof i o2 so ho hso
    have pre:∀j,j<i→R i j=true→lst L j=true:=fun j hj hr=>by
     obtain⟨b,hb⟩:∃b,sl[j]? =some b:=⟨_,List.getElem?_eq_getElem (by omega)⟩
     rcases(hR i o2 so hol hso).2 j b hj hb with⟨_,p,hp,h1⟩ |h1
     ·have hlp:=hpr p hp
      rcases h1 with rfl |⟨h1,h2⟩
      ·exact hlp
      ·exact hcl p (by have:=(hR i o2 so hol hso).1 p hp;omega) hlp j h1 h2
     ·rw[h1.1] at hr;cases hr
    have post:∀j,i<j→j<ops.size→R j i=true→lst L j=false:=fun j hj hjn hr=>by
     cases hl:lst L j with
     |false=>rfl
     |true=>rw[hcl j hjn hl i hj hr] at hil;cases hil
    have slots:∀t,(t∈so.uses∨so.dst=some t)→∀j,j<ops.size→wrT sl t j=true→j≠i→(lst L j=decide (j<i)):=fun t ht j hj hw hne=>by
     obtain⟨_,b,_,hjo,hb⟩:=getO j hj
     have hbd:b.dst=some t:=by simpa[wrT,hb] using hw
     by_cases hji:j<i
     ·rw[pre j hji ?_];simp[hji]
      rcases(hR i o2 so hol hso).2 j b hji hb with h |h
      ·exact h.1
      ·exfalso
       have:=h.2.1
       simp only[slotClash,hbd,Bool.or_eq_false_iff] at this
       rcases ht with ht |ht
       ·simp[ht] at this
       ·simp[ht] at this
     ·rw[post j (by omega) hj ?_];simp[hji]
      rcases(hR j _ b hjo hb).2 i so (by omega) hso with h |h
      ·exact h.1
      ·exfalso
       have:=h.2.1
       simp only[slotClash,hbd,Bool.or_eq_false_iff] at this
       rcases ht with ht |ht
       ·simp[ht] at this
       ·simp[ht] at this
    have tied:∀j,j<ops.size→j≠i→clash (cf i) (cf j)=true→lst L j=decide (j<i):=fun j hj hne h2=>by
     obtain⟨_,b,_,hjo,hb⟩:=getO j hj
     have hnl:∀(x:SO) (n:Nat),sl[n]? =some x→(cf n).1≠0→x.k.heapless=true→False:=fun x n hx h0 hh=>h0 (by rw[T.heapless hx hh])
     obtain⟨hi0,hj0⟩:=clash_ne h2
     have h3:clash (cf j) (cf i)=true:=by rw[clash_comm];exact h2
     by_cases hji:j<i
     ·rw[pre j hji ?_];simp[hji]
      rcases(hR i o2 so hol hso).2 j b hji hb with h |h
      ·exact h.1
      ·exfalso
       rcases h.2.2 with q |q |q
       ·exact hnl b j hb hj0 q
       ·exact hnl so i hso hi0 q
       ·have:=hpair j i q
        rw[hcf',hcf',h3] at this;cases this
     ·rw[post j (by omega) hj ?_];simp[hji]
      rcases(hR j _ b hjo hb).2 i so (by omega) hso with h |h
      ·exact h.1
      ·exfalso
       rcases h.2.2 with q |q |q
       ·exact hnl so i hso hi0 q
       ·exact hnl b j hb hj0 q
       ·have:=hpair i j q
        rw[hcf',hcf',h2] at this;cases this
    have heaps:(cf i).1≠0→(∀b,(cf i).1≠3+2*b)→(cf i).2=0→∀j,j<ops.size→j≠i→isW (cf j).1=true→lst L j=decide (j<i):=fun hi0 hnr hz j hj hne h2=>
     tied j hj hne (clash_any hi0 hnr hz h2)
    have hget:∀t∈so.uses,lastW ((E 0).get t) (wrT sl t) d (lst L) ops.size=(E i).get t:=fun t ht=>by
     rw[T.get t i (by omega),←lastW_below ops.size (by omega)]
     refine lastW_congr _ fun j hj hw=>?_
     by_cases hne:j=i
     ·subst hne;simp[hil]
     ·exact slots t (.inl ht) j hj hw hne
    have hheap:(cf i).1≠0→(∀b,(cf i).1≠3+2*b)→(cf i).2=0→foldW (Hs 0) (fun j=>isW (cf j).1) (effH sl E Hs cf) (lst L) ops.size=Hs i:=fun h0 hnr hz=>by
     rw[T.heap i (by omega),←foldW_below ops.size (by omega)]
     refine foldW_congr _ fun j hj hw=>?_
     by_cases hne:j=i
     ·subst hne;simp[hil]
     ·exact heaps h0 hnr hz j hj hne hw
    have hEi:EnvRep γ1 ((E i).keep so.uses) a1.tmps:=fun t=>by
     rw[Env.get_keep]
     split
     ·rename_i ht;rw[←hget t ht];exact hE t
     ·exact .dead _
    have hgd:evGuard ((E i).keep so.uses) so.g=evGuard (E i) so.g:=by
     unfold evGuard
     cases hg:so.g with
     |none=>rfl
     |some tw=>
      obtain⟨t,want⟩:=tw
      have :t∈so.uses:=by simp[SO.uses,hg]
      simp only[Env.get_keep,this,if_true]
    have hevk:∀H2,evKC c G ((E i).keep so.uses) H2 so.k=evKC c G (E i) H2 so.k:=fun H2=>
     evKC_congr fun t ht=>by rw[Env.get_keep,if_pos (by simp[SO.uses,ht])]
    by_cases hXi:X i=true
    ·
     rcases hX i so hso hXi with⟨j,so',hj,hxj,hsj,hcj⟩ |⟨j,so',hj,hxj,hsj,h1,h2,h3⟩ |⟨hhl,hwr,hg,dv,H1,hpan,hQp⟩
     ·exfalso
      have hf:=hnx j (by omega) hxj
      rcases(hR i o2 so hol hso).2 j so' hj hsj with h |h
      ·rw[pre j hj h.1] at hf;cases hf
      ·rw[hcj] at h;cases h.2.1
     ·exfalso
      have hf:=hnx j (by omega) hxj
      rcases(hR i o2 so hol hso).2 j so' hj hsj with h |h
      ·rw[pre j hj h.1] at hf;cases hf
      ·rcases h.2.2 with q |q |q
       ·rw[h1] at q;cases q
       ·rw[h2] at q;cases q
       ·exact h3 q
     ·have hHi:foldW (Hs 0) (fun j=>isW (cf j).1) (effH sl E Hs cf) (lst L) ops.size=Hs i:=by
       rw[T.heap i (by omega),←foldW_below ops.size (by omega)]
       refine foldW_congr _ fun j hj hw=>?_
       by_cases hne:j=i
       ·subst hne;simp[hil]
       ·obtain⟨hji,hnp⟩:=hwr j (by omega) hne hw
        obtain⟨_,b,_,hjo,hb⟩:=getO j hj
        rw[pre j hji ?_]
        ·simp[hji]
        ·rcases(hR i o2 so hol hso).2 j b hji hb with h |h
         ·exact h.1
         ·exfalso
          rcases h.2.2 with q |q |q
          ·have:=T.heapless hb q;rw[this] at hw;cases hw
          ·rw[hhl] at q;cases q
          ·exact hnp q
      have hw:=guard_ok hofi hEi hsz hlt (hgd.trans hg)
      simp only[wpOp,ho]
      rw[if_pos hw]
      refine .inl ?_
      rw[hHi] at hF hI
      refine op_wp S hI hEi hofi.k ((hevk _).trans hpan) (fun v γ2 w2 d2 hr _ _ _ _=>by cases hr) (fun v γ2 w2 d2 hr h1 h2 h3 h4=>?_)
      cases hr
      refine hQp γ2 v a1 w2 (hle.trans h1) (hF.trans hle.base h2) h3 h4 (fun t=>?_) hsz hdf
      rw[unwritten_get]
      split
      ·exact .dead _
      ·rename_i hun
       have:=(hE t).mono h1
       rwa [lastW_none fun j hj hwj=>hun (by
        simp only[wrT,beq_iff_eq,Option.bind_eq_some_iff] at hwj
        obtain⟨b,hb,hbd⟩:=hwj
        exact List.any_eq_true.2 ⟨b,List.mem_of_getElem? hb,by rw[hbd];exact beq_self_eq_true _⟩)] at this
    have hXi:X i=false:=by simpa using hXi
    have hL2:(L.setIfInBounds i true).size=ops.size:=by simp[hL]
    have hset:=lst_set (L:=L) (i:=i) (by omega)
    have hleft2:left (lst (L.setIfInBounds i true)) ops.size=fuel:=by
     have:=(left_set hil hset (n:=ops.size)).1 hilt
     omega
    have hcl2:∀k,k<ops.size→lst (L.setIfInBounds i true) k=true→∀j,j<k→R k j=true→lst (L.setIfInBounds i true) j=true:=fun k hk hlk j hj hr=>by
     rw[hset j]
     split
     ·rfl
     ·rw[hset k] at hlk
      split at hlk
      ·rename_i h;subst h;exact pre j hj hr
      ·exact hcl k hk hlk j hj hr
    have hW2:∀t,lastW ((E 0).get t) (wrT sl t) d (lst (L.setIfInBounds i true)) ops.size=if so.dst=some t then d i else lastW ((E 0).get t) (wrT sl t) d (lst L) ops.size:=fun t=>by
     split
     ·rename_i ht
      refine lastW_at (by rw[hset];simp) (by simp[wrT,hso,ht]) _ hilt fun j h1 h2 h3=>?_
      rw[hset,if_neg (by omega),slots t (.inr ht) j h2 h3 (by omega)]
      simp;omega
     ·rename_i ht
      refine lastW_congr _ fun j hj hw=>?_
      rw[hset,if_neg]
      intro h;subst h
      simp[wrT,hso] at hw
      exact ht hw
    have fin:∀γ2 w2 v,γ1.le γ2→Frame γ1 (foldW (Hs 0) (fun j=>isW (cf j).1) (effH sl E Hs cf) (lst L) ops.size) w1 γ2 (foldW (Hs 0) (fun j=>isW (cf j).1) (effH sl E Hs cf) (lst (L.setIfInBounds i true)) ops.size) w2→
        InvS W G γ2 (foldW (Hs 0) (fun j=>isW (cf j).1) (effH sl E Hs cf) (lst (L.setIfInBounds i true)) ops.size) w2→RepD γ2 v (d i)→wpAny P .any ops Q fuel (L.setIfInBounds i true) (a1.put o2.dst v) w2:=fun γ2 w2 v h1 h2 h3 h4=>by
     refine ih _ γ2 _ w2 hL2 hleft2 hcl2 (fun j hj hx=>by
      rw[hset]
      split
      ·rename_i e;rw[←e,hXi] at hx;cases hx
      ·exact hnx j hj hx) (hle.trans h1) (hF.trans hle.base h2) h3 (fun t=>?_) ?_ ?_
     ·rw[hW2 t,hofi.dst]
      cases hd:o2.dst with
      |none=>simpa[Act.put] using (hE t).mono h1
      |some u=>
       have hu:u<a1.tmps.size:=by rw[hsz];exact hofi.lt u hd
       simp only[Act.put,Option.some.injEq]
       split
       ·rename_i hut;subst hut
        simpa[Array.getD_eq_getD_getElem?,hu] using h4
       ·rename_i hut
        have:=(hE t).mono h1
        simpa[Array.getD_eq_getD_getElem?,Array.getElem?_setIfInBounds,hut] using this
     ·cases o2.dst<;>simp[Act.put,hsz]
     ·cases o2.dst<;>simp[Act.put,hdf]
    have hsame:isW (cf i).1=false→foldW (Hs 0) (fun j=>isW (cf j).1) (effH sl E Hs cf) (lst (L.setIfInBounds i true)) ops.size=foldW (Hs 0) (fun j=>isW (cf j).1) (effH sl E Hs cf) (lst L) ops.size:=fun h2=>
     foldW_congr _ fun j hj hw=>by
      rw[hset,if_neg]
      intro h;subst h
      rw[h2] at hw;cases hw
    simp only[wpOp,ho]
    rcases T.step i so hso with⟨hg,hd,hH,hc0⟩ |⟨hg,hd,_⟩
    ·have hg:evGuard (E i) so.g=some false:=by
      rcases hg with hg |hg
      ·rw[hXi] at hg;cases hg
      ·exact hg
     have hw:=guard_ok hofi hEi hsz hlt (hgd.trans hg)
     rw[if_neg (by simp[hw])]
     have hs:=hsame (by rw[hc0];rfl)
     refine fin γ1 w1 undef (.refl γ1) ?_ ?_ ?_
     ·rw[hs];exact .refl _ _ _
     ·rw[hs];exact hI
     ·rw[hd];exact RepD.undef
    ·have hw:=guard_ok hofi hEi hsz hlt (hgd.trans hg)
     rw[if_pos hw]
     refine .inl ?_
     by_cases h0:(cf i).1=0
     ·have hs:=hsame (by rw[h0];rfl)
      have hev:=T.free hso hXi h0 hg (foldW (Hs 0) (fun j=>isW (cf j).1) (effH sl E Hs cf) (lst L) ops.size)
      refine op_wp S hI hEi hofi.k ((hevk _).trans hev) (fun v γ2 w2 d2 hr h1 h2 h3 h4=>?_) (fun v γ2 w2 d2 hr _ _ _ _=>by cases hr)
      cases hr
      refine fin γ2 w2 v h1 ?_ ?_ h4
      ·rw[hs];exact h2
      ·rw[hs];exact h3
     ·by_cases hrd:∃b,(cf i).1=3+2*b
      ·obtain⟨b,hb⟩:=hrd
       have hs:=hsame (by rw[hb];exact isW_read b)
       have hbx:(foldW (Hs 0) (fun j=>isW (cf j).1) (effH sl E Hs cf) (lst L) ops.size).bx[b]? =(Hs i).bx[b]?:=by
        let gx:Nat→Option (List D)→Option (List D):=fun j o=>if(cf j).2=0 then(Hs (j+1)).bx[b]? else match(sl[j]?).bind fun so=>insOf (E j) so.k with
         |some q=>insB q o
         |none=>(Hs (j+1)).bx[b]?
        have insx:∀m,m<ops.size→(cf m).2≠0→∃q,(∀h,effH sl E Hs cf m h=insH q h)∧(∀o,gx m o=insB q o)∧((cf m).1=4+2*q.2.1∧q.2.1<2000000000)∧Hs (m+1)=insH q (Hs m):=by
         intro m hm hz
         have hsm:sl[m]? =some (sl[m]'(by omega)):=List.getElem?_eq_getElem (by omega)
         obtain⟨q,h1,h2,h3,h4⟩:=T.ins hsm hz
         refine⟨q,fun h=>effH_ins hsm hz h1,fun o=>?_,⟨by rw[h2],T.ins_lt hsm hz q h1⟩,(insOf_good h1 h4).2.2.1⟩
         simp only[gx,hz,if_false,hsm,Option.bind_some,h1]
        have one:∀m,m≤ops.size→(Hs m).bx[b]? =foldW ((Hs 0).bx[b]?) (fun j=>touches b (cf j).1) gx (fun _=>true) m:=by
         intro m
         induction m with
         |zero=>intro _;rfl
         |succ m ihm=>
          intro hm
          have hsm:sl[m]? =some (sl[m]'(by omega)):=List.getElem?_eq_getElem (by omega)
          simp only[foldW,true_and]
          rw[←ihm (by omega)]
          split
          ·rename_i ht
           by_cases hz:(cf m).2=0
           ·simp only[gx,hz,if_true]
           ·obtain⟨q,_,g2,g3,g4⟩:=insx m (by omega) hz
            rw[g2,g4,insH_at,if_pos]
            rw[g3.1,touches_one g3.2] at ht
            have :b=q.2.1:=by simpa using ht
            exact this.symm
          ·rename_i hnt
           rcases untouched (b:=b) (by simpa using hnt) with q |⟨i',q,hne⟩
           ·rw[T.quiet hsm q]
           ·exact T.apart hsm q hne
        have pref:∀m,m<ops.size→lst L m=true→isW (cf m).1=true→(cf m).2=0→∀j,j<m→isW (cf j).1=true→lst L j=true:=fun m hm hlm hwm hz j hj hwj=>by
         obtain⟨om,bm,_,hmo,hbm⟩:=getO m hm
         obtain⟨oj,bj,_,hjo,hbj⟩:=getO j (by omega)
         refine hcl m hm hlm j hj ?_
         rcases(hR m om bm hmo hbm).2 j bj hj hbj with h |h
         ·exact h.1
         ·exfalso
          rcases h.2.2 with q |q |q
          ·have:=T.heapless hbj q;rw[this] at hwj;cases hwj
          ·have:=T.heapless hbm q;rw[this] at hwm;cases hwm
          ·have:=hpair j m q
           rw[hcf',hcf',clash_ww hwj hwm (.inr (.inl hz))] at this;cases this
        have two:∀m,m≤ops.size→(foldW (Hs 0) (fun j=>isW (cf j).1) (effH sl E Hs cf) (lst L) m).bx[b]? =foldW ((Hs 0).bx[b]?) (fun j=>touches b (cf j).1) gx (lst L) m:=by
         intro m
         induction m with
         |zero=>intro _;rfl
         |succ m ihm=>
          intro hm
          by_cases hw:lst L m=true∧isW (cf m).1=true
          ·by_cases hz:(cf m).2=0
           ·have e1:foldW (Hs 0) (fun j=>isW (cf j).1) (effH sl E Hs cf) (lst L) (m+1)=Hs (m+1):=by
             simp only[foldW];rw[if_pos hw,effH_plain hz]
            rw[e1,one (m+1) hm]
            refine foldW_congr _ fun j hj ht=>?_
            by_cases hjm:j=m
            ·subst hjm;exact hw.1.symm
            ·exact(pref m (by omega) hw.1 hw.2 hz j (by omega) (touches_isW ht)).symm
           ·obtain⟨q,g1,g2,g3,g4⟩:=insx m (by omega) hz
            have e1:foldW (Hs 0) (fun j=>isW (cf j).1) (effH sl E Hs cf) (lst L) (m+1)=insH q (foldW (Hs 0) (fun j=>isW (cf j).1) (effH sl E Hs cf) (lst L) m):=by
             simp only[foldW];rw[if_pos hw,g1]
            rw[e1,insH_at,ihm (by omega)]
            by_cases hqb:q.2.1=b
            ·have ht:touches b (cf m).1=true:=by
              rw[g3.1,touches_one g3.2,hqb]
              simp
             simp only[foldW]
             rw[if_pos hqb,if_pos ⟨hw.1,ht⟩,g2]
            ·have ht:¬touches b (cf m).1=true:=by
              rw[g3.1,touches_one g3.2]
              simpa using fun e:b=q.2.1=>hqb e.symm
             simp only[foldW]
             rw[if_neg hqb,if_neg fun h=>ht h.2]
          ·have e1:foldW (Hs 0) (fun j=>isW (cf j).1) (effH sl E Hs cf) (lst L) (m+1)=foldW (Hs 0) (fun j=>isW (cf j).1) (effH sl E Hs cf) (lst L) m:=by
            simp only[foldW];rw[if_neg hw]
           have e2:foldW ((Hs 0).bx[b]?) (fun j=>touches b (cf j).1) gx (lst L) (m+1)=foldW ((Hs 0).bx[b]?) (fun j=>touches b (cf j).1) gx (lst L) m:=by
            simp only[foldW];rw[if_neg fun h=>hw ⟨h.1,touches_isW h.2⟩]
           rw[e1,e2,ihm (by omega)]
        rw[two _ (Nat.le_refl _),one i (by omega),←foldW_below ops.size (by omega)]
        refine foldW_congr _ fun j hj ht=>?_
        by_cases hne:j=i
        ·subst hne;simp[hil]
        ·exact tied j hj hne (clash_touch hb ht)
       have hev:=T.readBox hso hXi hb hg hbx
       refine op_wp S hI hEi hofi.k ((hevk _).trans hev) (fun v γ2 w2 d2 hr h1 h2 h3 h4=>?_) (fun v γ2 w2 d2 hr _ _ _ _=>by cases hr)
       cases hr
       refine fin γ2 w2 v h1 ?_ ?_ h4
       ·rw[hs];exact h2
       ·rw[hs];exact h3
      ·have hnr:∀b,(cf i).1≠3+2*b:=fun b h=>hrd ⟨b,h⟩
       by_cases hz:(cf i).2=0
       ·have hb:=hheap h0 hnr hz
        have hnext:Hs (i+1)=foldW (Hs 0) (fun j=>isW (cf j).1) (effH sl E Hs cf) (lst (L.setIfInBounds i true)) ops.size:=by
         by_cases h2:isW (cf i).1=true
         ·refine(foldW_at (g0:=Hs 0) (wr:=fun j=>isW (cf j).1) (f:=effH sl E Hs cf) (l:=lst (L.setIfInBounds i true)) (i:=i) (x:=Hs (i+1)) (by rw[hset];simp) h2 (fun _=>effH_plain hz) _ hilt fun j h1 h3 h4=>?_).symm
          rw[hset,if_neg (by omega),heaps h0 hnr hz j h3 (by omega) h4]
          simp;omega
         ·have h2:isW (cf i).1=false:=by simpa using h2
          rw[hsame h2,hb,T.quiet hso h2]
        rw[hb] at hI fin
        refine op_wp S hI hEi hofi.k ((hevk _).trans hd) (fun v γ2 w2 d2 hr h1 h2 h3 h4=>?_) (fun v γ2 w2 d2 hr _ _ _ _=>by cases hr)
        cases hr
        refine fin γ2 w2 v h1 ?_ ?_ h4
        ·rw[←hnext];exact h2
        ·rw[←hnext];exact h3
       ·
        obtain⟨q,hq1,hq2,_,hq4⟩:=T.ins hso hz
        obtain⟨hgood,hdu,hnx,hevq⟩:=insOf_good hq1 hq4
        have hwi:isW (cf i).1=true:=by rw[hq2];exact isW_write _
        have grp:∀j,j<ops.size→j≠i→isW (cf j).1=true→(clash (cf i) (cf j)=true∧lst L j=decide (j<i))∨∃q',(∀h,effH sl E Hs cf j h=insH q' h)∧(cf j).2≠0∧(cf j).1=(cf i).1∧q.2.1=q'.2.1∧keyCode q.2.2.1≠keyCode q'.2.2.1:=by
         intro j hj hne hw
         by_cases hcl':clash (cf i) (cf j)=true
         ·exact .inl ⟨hcl',tied j hj hne hcl'⟩
         ·right
          have h1:(cf j).2≠0:=fun e=>hcl' (clash_ww hwi hw (.inr (.inl e)))
          have h2:(cf i).1=(cf j).1:=Classical.byContradiction fun e=>hcl' (clash_ww hwi hw (.inr (.inr (.inl e))))
          have h3:(cf i).2≠(cf j).2:=fun e=>hcl' (clash_ww hwi hw (.inr (.inr (.inr e))))
          have hsj:sl[j]? =some (sl[j]'(by omega)):=List.getElem?_eq_getElem (by omega)
          obtain⟨q',g1,g2,_,_⟩:=T.ins hsj h1
          rw[hq2,g2] at h2 h3
          dsimp only at h2 h3
          exact⟨q',fun h=>effH_ins hsj h1 g1,h1,by rw[hq2,g2];dsimp only;omega,by omega,fun e=>h3 (by rw[e])⟩
        have hnext:foldW (Hs 0) (fun j=>isW (cf j).1) (effH sl E Hs cf) (lst (L.setIfInBounds i true)) ops.size=insH q (foldW (Hs 0) (fun j=>isW (cf j).1) (effH sl E Hs cf) (lst L) ops.size):=by
         have low:∀m,m≤i→foldW (Hs 0) (fun j=>isW (cf j).1) (effH sl E Hs cf) (lst (L.setIfInBounds i true)) m=foldW (Hs 0) (fun j=>isW (cf j).1) (effH sl E Hs cf) (lst L) m:=fun m hm=>
          foldW_congr m fun j hj _=>by rw[hset,if_neg (by omega)]
         have high:∀m,m≤ops.size→i<m→foldW (Hs 0) (fun j=>isW (cf j).1) (effH sl E Hs cf) (lst (L.setIfInBounds i true)) m=insH q (foldW (Hs 0) (fun j=>isW (cf j).1) (effH sl E Hs cf) (lst L) m):=by
          intro m
          induction m with
          |zero=>intro _ h;omega
          |succ m ihm=>
           intro hm him
           by_cases hmi:m=i
           ·subst hmi
            simp only[foldW]
            rw[if_pos ⟨by rw[hset];simp,hwi⟩,if_neg (fun h=>by rw[hil] at h;cases h.1),low m (Nat.le_refl _)]
            exact effH_ins hso hz hq1
           ·have hs':lst (L.setIfInBounds i true) m=lst L m:=by rw[hset m,if_neg (fun e=>hmi e.symm)]
            by_cases hw:lst L m=true∧isW (cf m).1=true
            ·rw[foldW_pos (l:=lst (L.setIfInBounds i true)) ⟨hs'.trans hw.1,hw.2⟩,foldW_pos hw,ihm (by omega) (by omega)]
             rcases grp m (by omega) hmi hw.2 with⟨_,h⟩ |⟨q',g1,_,_,g4,g5⟩
             ·rw[hw.1] at h
              have :m<i:=by simpa using h.symm
              omega
             ·rw[g1,g1]
              exact(insH_comm g5 g4 _).symm
            ·rw[foldW_neg (l:=lst (L.setIfInBounds i true)) (fun h=>hw ⟨hs'.symm.trans h.1,h.2⟩),foldW_neg hw,ihm (by omega) (by omega)]
         exact high _ (Nat.le_refl _) hilt
        have hgd2:insGood q ((foldW (Hs 0) (fun j=>isW (cf j).1) (effH sl E Hs cf) (lst L) ops.size).bx[q.2.1]?):=by
         have pr:∀m,m<i→lst L m=true→isW (cf m).1=true→((cf m).2=0∨(cf m).1≠(cf i).1)→∀j,j<m→isW (cf j).1=true→lst L j=true:=fun m hm hlm hwm hng j hj hwj=>by
          obtain⟨om,bm,_,hmo,hbm⟩:=getO m (by omega)
          obtain⟨oj,bj,_,hjo,hbj⟩:=getO j (by omega)
          rcases grp j (by omega) (by omega) hwj with⟨hcc,h⟩ |⟨q',g1,g2,g3,g4,g5⟩
          ·rw[h];simp;omega
          ·refine hcl m (by omega) hlm j hj ?_
           rcases(hR m om bm hmo hbm).2 j bj hj hbj with h |h
           ·exact h.1
           ·exfalso
            rcases h.2.2 with q |q |q
            ·have:=T.heapless hbj q;rw[this] at hwj;cases hwj
            ·have:=T.heapless hbm q;rw[this] at hwm;cases hwm
            ·have:=hpair j m q
             rw[hcf',hcf',clash_ww hwj hwm ?_] at this
             ·cases this
             ·rcases hng with e |e
              ·exact .inr (.inl e)
              ·exact .inr (.inr (.inl fun e'=>e (e'.symm.trans g3)))
         have cmp:∀m,m≤i→(insGood q ((foldW (Hs 0) (fun j=>isW (cf j).1) (effH sl E Hs cf) (fun _=>true) m).bx[q.2.1]?)↔insGood q ((foldW (Hs 0) (fun j=>isW (cf j).1) (effH sl E Hs cf) (lst L) m).bx[q.2.1]?)):=by
          intro m
          induction m with
          |zero=>intro _;rfl
          |succ m ihm=>
           intro hm
           by_cases hw:isW (cf m).1=true
           ·rcases grp m (by omega) (by omega) hw with⟨hcc,h⟩ |⟨q',g1,g2,g3,g4,g5⟩
            ·by_cases hng:(cf m).2=0∨(cf m).1≠(cf i).1
             ·have hlm:lst L m=true:=by rw[h];simp;omega
              have :foldW (Hs 0) (fun j=>isW (cf j).1) (effH sl E Hs cf) (fun _=>true) (m+1)=foldW (Hs 0) (fun j=>isW (cf j).1) (effH sl E Hs cf) (lst L) (m+1):=
               foldW_congr _ fun j hj hwj=>by
                by_cases hjm:j=m
                ·subst hjm;exact hlm.symm
                ·exact(pr m (by omega) hlm hw hng j (by omega) hwj).symm
              rw[this]
             ·
              exfalso
              have hng1:(cf m).2≠0:=fun e=>hng (.inl e)
              have hng2:(cf m).1=(cf i).1:=Classical.byContradiction fun e=>hng (.inr e)
              have hmi:=huniq m i (by omega) hng1
              have hcl2:¬clash (cf i) (cf m)=true:=by
               intro hc
               simp only[clash,Bool.and_eq_true,Bool.not_eq_true'] at hc
               have:=hc.2
               simp only[apartWW,Bool.and_eq_false_iff,bne_eq_false_iff_eq,beq_eq_false_iff_ne] at this
               rcases this with((e |e) |e) |e
               ·exact hz e
               ·exact hng1 e
               ·exact e hng2.symm
               ·exact hmi (Prod.ext hng2 e.symm)
              exact hcl2 hcc
            ·have gg:∀h:Hp,insGood q ((insH q' h).bx[q.2.1]?)↔insGood q (h.bx[q.2.1]?):=fun h=>by
              rw[insH_at,if_pos g4.symm]
              exact insGood_ins g5
             simp only[foldW,true_and]
             rw[if_pos hw,g1,gg,ihm (by omega)]
             by_cases hlm:lst L m=true
             ·rw[if_pos ⟨hlm,hw⟩,g1,gg]
             ·rw[if_neg fun h=>hlm h.1]
           ·simp only[foldW,true_and]
            rw[if_neg hw,if_neg fun h=>hw h.2]
            exact ihm (by omega)
         have up:∀m,m≤ops.size→i≤m→insGood q ((foldW (Hs 0) (fun j=>isW (cf j).1) (effH sl E Hs cf) (lst L) m).bx[q.2.1]?):=by
          intro m
          induction m with
          |zero=>
           intro _ h
           have hi0:i=0:=by omega
           rw[←cmp 0 (by omega)]
           have:=hgood
           rw[T.heap i (by omega),hi0] at this
           exact this
          |succ m ihm=>
           intro hm him
           by_cases hmi:i=m+1
           ·rw[←hmi,←cmp i (Nat.le_refl _),←T.heap i (by omega)]
            exact hgood
           ·have ih:=ihm (by omega) (by omega)
            by_cases hw:lst L m=true∧isW (cf m).1=true
            ·have hne:m≠i:=fun e=>by rw[e,hil] at hw;cases hw.1
             rcases grp m (by omega) hne hw.2 with⟨hcc,h⟩ |⟨q',g1,g2,g3,g4,g5⟩
             ·rw[hw.1] at h
              have :m<i:=by simpa using h.symm
              omega
             ·simp only[foldW]
              rw[if_pos hw,g1,insH_at,if_pos g4.symm]
              exact(insGood_ins g5).2 ih
            ·simp only[foldW]
             rw[if_neg hw]
             exact ih
         exact up _ (Nat.le_refl _) (by omega)
        have hrun:=insH_run hgd2
        have hev:evKC c G (E i) (foldW (Hs 0) (fun j=>isW (cf j).1) (effH sl E Hs cf) (lst L) ops.size) so.k=some (.val .undef,insH q (foldW (Hs 0) (fun j=>isW (cf j).1) (effH sl E Hs cf) (lst L) ops.size)):=by
         rw[hevq,hrun]
        refine op_wp S hI hEi hofi.k ((hevk _).trans hev) (fun v γ2 w2 d2 hr h1 h2 h3 h4=>?_) (fun v γ2 w2 d2 hr _ _ _ _=>by cases hr)
        cases hr
        refine fin γ2 w2 v h1 ?_ ?_ ?_
        ·rw[hnext];exact h2
        ·rw[hnext];exact h3
        ·rw[hdu];exact h4
 refine key _ _ γ a w (by simp) ?_ (fun i hi hl=>by simp[lst,Array.getD_eq_getD_getElem?,hi] at hl) (fun i hi _=>by simp[lst,Array.getD_eq_getD_getElem?,hi]) (.refl γ) ?_ ?_ ?_ hn rfl
 ·have :∀n,n≤ops.size→left (lst (Array.replicate ops.size false)) n=n:=by
   intro n
   induction n with
   |zero=>intro _;rfl
   |succ n ihn=>
    intro h
    have h1:lst (Array.replicate ops.size false) n=false:=by simp[lst,Array.getD_eq_getD_getElem?,Array.getElem?_replicate];split<;>rfl
    simp only[left,h1,ihn (by omega)]
    rfl
  exact this _ (Nat.le_refl _)
 all_goals
  have hz2:∀{α:Type} (g0:α) (wr:Nat→Bool) (d:Nat→α→α) (n:Nat),foldW g0 wr d (lst (Array.replicate ops.size false)) n=g0:=by
   intro α g0 wr d n
   induction n with
   |zero=>rfl
   |succ n ihn=>
    have h1:lst (Array.replicate ops.size false) n=false:=by simp[lst,Array.getD_eq_getD_getElem?,Array.getElem?_replicate];split<;>rfl
    simp only[foldW,h1,Bool.false_eq_true,false_and,if_false,ihn]
  have hz:∀{α:Type} (g0:α) (wr:Nat→Bool) (d:Nat→α) (n:Nat),lastW g0 wr d (lst (Array.replicate ops.size false)) n=g0:=by
   intro α g0 wr d n
   induction n with
   |zero=>rfl
   |succ n ihn=>
    have h1:lst (Array.replicate ops.size false) n=false:=by simp[lst,Array.getD_eq_getD_getElem?,Array.getElem?_replicate];split<;>rfl
    simp only[lastW,h1,Bool.false_eq_true,false_and,if_false,ihn]
  first |(rw[hz2];exact .refl _ _ _) |(rw[hz2];exact I) |(intro t;rw[hz];exact En t)
theorem draw_wp{c:CallR}(S:Sound P W G c){ops:Array Oper}{sl:List SO}{nt:Nat}(hlen:ops.size=sl.length)(hof:∀(i:Nat) o so,ops[i]? =some o→sl[i]? =some so→OpOf P ops nt o so)
    (hlt:∀(j:Nat) o' t,ops[j]? =some o'→o'.dst=some t→t<nt) {pairs:List (Nat×Nat)} (hok:drawOk pairs ops.toList sl=true) {env env':Env} {H H':Hp} {cs:List (Nat×Nat)} (ev:evDraw c G sl env H=some (env',H',cs))
    (hp0:pairsOk pairs cs=true) {γ:Gh} {a:Act} {w:World} (I:InvS W G γ H w) (En:EnvRep γ env a.tmps) (hn:a.tmps.size=nt) {Q:Exit→Act→World→Prop}
    (hQ:∀γ' a' w',γ.le γ'→Frame γ H w γ' H' w'→InvS W G γ' H' w'→EnvRep γ' env' a'.tmps→a'.tmps.size=nt→a'.defers=a.defers→Q .normal a' w'):
    wpAny P .any ops Q ops.size (Array.replicate ops.size false) a w:=by
 obtain⟨E,Hs,d,rfl,rfl,rfl,rfl,T⟩:=evDraw_trace ev
 exact draw_wpX S hlen hof hlt hok T hp0 I En hn (fun i so _ h=>by cases h) fun _=>hQ
theorem pan_heapless{c:CallR}{e:Env}{H H':Hp}{k:SK}{d:D}(h:evKC c G e H k=some (.pan d,H')):k.heapless=false:=by
 cases hk:k.heapless with
 |false=>rfl
 |true=>
  have hc:k.isCall=false:=by cases k<;>first |rfl |cases hk
  rw[evKC_plain hc] at h
  split at h<;>cases h
theorem draw_pan{c:CallR}(S:Sound P W G c){ops:Array Oper}{sl:List SO}{nt:Nat}(hlen:ops.size=sl.length)(hof:∀(i:Nat) o so,ops[i]? =some o→sl[i]? =some so→OpOf P ops nt o so)
    (hlt:∀(j:Nat) o' t,ops[j]? =some o'→o'.dst=some t→t<nt) {pairs:List (Nat×Nat)} (hok:drawOk pairs ops.toList sl=true) {env:Env} {H H':Hp} {dv:D} {cs:List (Nat×Nat)} {k:Nat} (ev:evDrawP c G pairs 0 sl env H=some (dv,H',cs,k))
    (hp0:pairsOk pairs cs=true) (hp1:panOk pairs cs k=true) {γ:Gh} {a:Act} {w:World} (I:InvS W G γ H w) (En:EnvRep γ env a.tmps) (hn:a.tmps.size=nt) {Q:Exit→Act→World→Prop}
    (hQ:∀γ' v a' w',γ.le γ'→Frame γ H w γ' H' w'→InvS W G γ' H' w'→RepD γ' v dv→EnvRep γ' (unwritten sl env) a'.tmps→a'.tmps.size=nt→a'.defers=a.defers→Q (.panic [{v,recovered:=false}]) a' w'):
    wpAny P .any ops Q ops.size (Array.replicate ops.size false) a w:=by
 obtain⟨E,Hs,d,X,k0,rfl,rfl,rfl,T,b1,b2,⟨so0,b3,b4,b5⟩,b6,b7⟩:=evDrawP_trace ev
 have hlt0:k0<sl.length:=(List.getElem?_eq_some_iff.1 b3).1
 refine draw_wpX S hlen hof hlt hok T hp0 I En hn (fun i so hs hx=>?_) fun hall=>?_
 ·by_cases hik:i=k0
  ·subst hik
   rw[b3] at hs
   cases hs
   refine .inr (.inr ⟨pan_heapless b5,fun j hj hne hw=>?_,b4,dv,H',b5,hQ⟩)
   have hji:j<i:=by
    by_cases h:j<i
    ·exact h
    ·rw[b6 j (by omega)] at hw;cases hw
   refine⟨hji,fun hm=>?_⟩
   have:=List.all_eq_true.1 hp1 (j,i) hm
   rw[List.getD_eq_getElem?_getD] at hw
   simp[hw] at this
  ·obtain⟨h1,h2⟩:=b7 i so hs hx hik
   rcases h2 with⟨j',so',q1,q2,q3,q4⟩ |⟨q1,q2⟩
   ·exact .inl ⟨j',so',q1,q2,q3,q4⟩
   ·refine .inr (.inl ⟨k0,so0,h1,b1,b3,pan_heapless b5,q1,?_⟩)
    rw[Nat.zero_add,Nat.zero_add] at q2
    exact q2
 ·have:=hall k0 (by omega)
  rw[b1] at this
  cases this
end Go.Vs
