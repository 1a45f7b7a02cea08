/-
  A value-level evaluator for Go functions; the functions of this cut by it; plain laws. Part 7 of 7.
-/
import Derived.Test.YtalgjkpkkdljaaaGreatDoorG6
import Derived.Test.YtalgjkpkkdljaaaGreatDoorG5
namespace Go.Proofs.YtalgjkpkkdljaaaGreatDoor
open Go.Vs
def bl:List UInt8→Int
 |[]=>0
 |b::s=>(if b=40 then 1 else if b=41 then -1 else 0)+bl s
theorem bl_app:∀s t:List UInt8,bl (s++t)=bl s+bl t
 |[],t=>by simp[bl]
 |b::s,t=>by simp only[List.cons_append,bl,bl_app s t];omega
structure Bl (s:List UInt8):Prop where
 z:bl s=0
 d:∀i,bl (s.drop i)≤0
theorem Bl.app{s t:List UInt8}(h:Bl s)(k:Bl t):Bl (s++t):=by
 refine⟨by rw[bl_app,h.z,k.z];rfl,fun i=>?_⟩
 rw[List.drop_append,bl_app]
 have:=h.d i
 have:=k.d (i-s.length)
 omega
def noP(s:List UInt8):Bool:=s.all fun b=>b !=40&&b !=41
theorem bl_no:∀{s:List UInt8},noP s=true→bl s=0
 |[],_=>rfl
 |b::s,h=>by
  unfold noP at h
  simp only[List.all_cons,Bool.and_eq_true,bne_iff_ne] at h
  simp only[bl]
  rw[if_neg h.1.1,if_neg h.1.2,bl_no h.2]
  rfl
theorem Bl.no{s:List UInt8}(h:noP s=true):Bl s:=by
 refine⟨bl_no h,fun i=>?_⟩
 have :noP (s.drop i)=true:=by
  unfold noP at h⊢
  rw[List.all_eq_true] at h⊢
  exact fun x hx=>h x (List.mem_of_mem_drop hx)
 rw[bl_no this]
 exact Int.le_refl _
def stp(o:Int)(b:UInt8):Int:=(if b=40 then o+1 else o)-(if b=41 then 1 else 0)
def cl:Int→List UInt8→Option Nat
 |_,[]=>none
 |o,b::r=>if stp o b=0 then some 0 else(cl (stp o b) r).map (· +1)
theorem stp_bl(o:Int)(b:UInt8)(s:List UInt8):stp o b+bl s=o+bl (b::s):=by
 simp only[stp,bl]
 by_cases h:b=40
 ·subst h;simp;omega
 ·by_cases h':b=41
  ·subst h';simp;omega
  ·simp[h,h']
theorem cl_some:∀(r:List UInt8) (o:Int),0<o→o+bl r≤0→∃k,cl o r=some k
 |[],o,h,h'=>by simp only[bl] at h';omega
 |b::r,o,h,h'=>by
  have hs:=stp_bl o b r
  simp only[cl]
  split
  ·exact⟨0,rfl⟩
  ·rename_i h0
   have :0<stp o b:=by
    unfold stp at h0⊢
    split at h0<;>split at h0<;>split<;>omega
   obtain⟨k,hk⟩:=cl_some r (stp o b) this (by omega)
   exact⟨k+1,by rw[hk];rfl⟩
theorem cl_at:∀(r:List UInt8) (o:Int) (k:Nat),0≤o→cl o r=some k→k<r.length∧(0<o→r[k]? =some 41)
 |b::r,o,k,h0,h=>by
  simp only[cl] at h
  split at h
  ·rename_i hz
   cases h
   refine⟨by simp,fun ho=>?_⟩
   have :b=41:=by
    unfold stp at hz
    by_cases q:b=41
    ·exact q
    ·rw[if_neg q] at hz
     split at hz<;>omega
   rw[this];rfl
  ·rename_i hz
   cases hc:cl (stp o b) r with
   |none=>rw[hc] at h;cases h
   |some m=>
    rw[hc] at h
    cases h
    by_cases ho:0<o
    ·have hp:0<stp o b:=by
      unfold stp at hz⊢
      split at hz<;>split at hz<;>split<;>omega
     have ih:=cl_at r (stp o b) m (by omega) hc
     exact⟨by simp only[List.length_cons];omega,fun _=>by simpa using ih.2 hp⟩
    ·by_cases hn:0≤stp o b
     ·have ih:=cl_at r (stp o b) m hn hc
      exact⟨by simp only[List.length_cons];omega,fun q=>absurd q ho⟩
     ·refine⟨?_,fun q=>absurd q ho⟩
      have :∀(r:List UInt8) (o:Int) (k:Nat),cl o r=some k→k<r.length:=by
       intro r
       induction r with
       |nil=>intro o k h;cases h
       |cons b r ih=>
        intro o k h
        simp only[cl] at h
        split at h
        ·cases h;simp
        ·cases hc:cl (stp o b) r with
         |none=>rw[hc] at h;cases h
         |some m=>
          rw[hc] at h;cases h
          have:=ih _ _ hc
          simp only[List.length_cons];omega
      have:=this r _ _ hc
      simp only[List.length_cons];omega
theorem closes{s:List UInt8}(h:Bl s){i:Nat}(hi:s[i]? =some 40):∃k,cl 0 (s.drop i)=some k∧1≤k∧i+k<s.length∧s[i+k]? =some 41:=by
 have hl:i<s.length:=(List.getElem?_eq_some_iff.1 hi).1
 have hg:s[i]=40:=(List.getElem?_eq_some_iff.1 hi).2
 have hd:s.drop i=40::s.drop (i+1):=by rw[List.drop_eq_getElem_cons hl,hg]
 have hb:=h.d i
 rw[hd] at hb
 have hs:stp 0 40=1:=by decide
 have hc:cl 0 (40::s.drop (i+1))=(cl 1 (s.drop (i+1))).map (· +1):=by
  simp only[cl,hs]
  rw[if_neg (by decide)]
 obtain⟨m,hm⟩:=cl_some (s.drop (i+1)) 1 (by decide) (by simpa[bl] using hb)
 obtain⟨q1,q2⟩:=cl_at _ 1 m (by decide) hm
 refine⟨m+1,by rw[hd,hc,hm];rfl,by omega,?_,?_⟩
 ·rw[List.length_drop] at q1;omega
 ·have:=q2 (by decide)
  rw[List.getElem?_drop] at this
  rw[←this]
  congr 1
  omega
theorem pf_snd(s:List UInt8):(pf s).2= .nils∨∃x,(pf s).2= .slice 2 [x]:=by
 unfold pf
 split
 ·exact .inr ⟨_,rfl⟩
 ·split
  ·exact .inl rfl
  ·exact .inr ⟨_,rfl⟩
theorem law11(s t:List UInt8):∃H',call pg 11 [.p (.str s),.p (.str t)] ⟨[],[]⟩=some (.val (.p (.bool true)),H'):=by
 have hhead:=head32_call
 by_cases hs:(600 :Int)<(s.length:Int)
 ·exact⟨⟨[],[]⟩,call_body (fc:=fc11) rfl rfl rfl rfl (by simp[fc11,evKC,evK,evGuard,put,Env.get,Env.keep,entry,Opd.ev,binD,lenD,finish,evRes,evRes1,hhead,hs])⟩
 by_cases ht:(600 :Int)<(t.length:Int)
 ·exact⟨⟨[],[]⟩,call_body (fc:=fc11) rfl rfl rfl rfl (by simp[fc11,evKC,evK,evGuard,put,Env.get,Env.keep,entry,Opd.ev,binD,lenD,finish,evRes,evRes1,hhead,hs,ht])⟩
 have hps:=fun H=>pf_eq s (by omega) H
 have hpt:=fun H=>pf_eq t (by omega) H
 have ds:=pf_snd s
 have dt:=pf_snd t
 generalize hqs:pf s=rs at *
 obtain⟨n,d⟩:=rs
 generalize hqt:pf t=rt at *
 obtain⟨k,d'⟩:=rt
 dsimp only at ds dt hps hpt
 have kn:=pone_kids n
 have cn:=kids_cells n
 have kk:=pone_kids k
 have ck:=kids_cells k
 rcases ds with ds |⟨x,ds⟩
 ·subst ds
  obtain⟨hv,h3⟩:=pf_valid hqs
  have hsz:=valid_size hv
  obtain⟨m,em,fm⟩:=pf_txt hv h3
  have hl:=txt_len 24 n (valid_wf hv) true
  have hprint:=fun H=>Pj.formula_eq (a:=n) (by omega) (valid_i64s _ n (Nat.le_refl _) hv) (by omega) H
  have hvm:validN m=true:=by rw[valid_er em];exact hv
  have hszm:=valid_size hvm
  have hpm:=fun H=>Pj.formula_eq (a:=m) (by omega) (valid_i64s _ m (Nat.le_refl _) hvm) (by rw[txt_er em];omega) H
  rw[txt_er em] at hpm
  have hpT:=fun H=>pf_eq (Pj.txt n true) (by omega) H
  rw[fm] at hpT
  have heq:=fun H=>equalNodes_eq (a:=n) (b:=m) (by omega) H
  rw[eqN_er _ n m (Nat.le_refl _) em.symm] at heq
  have km:=pone_kids m
  have cm:=kids_cells m
  rcases dt with dt |⟨x,dt⟩
  ·subst dt
   obtain⟨hvk,h3k⟩:=pf_valid hqt
   have hszk:=valid_size hvk
   have hlk:=txt_len 24 k (valid_wf hvk) true
   have hpk:=fun H=>Pj.formula_eq (a:=k) (by omega) (valid_i64s _ k (Nat.le_refl _) hvk) (by omega) H
   have hsm:=fun H=>small_eq k H
   rw[decide_eq_true hszk] at hsm
   have hrq:=fun H=>requal_eq n.size n k (Nat.le_refl _) (by omega) H
   rw[eq_txt hv h3 hvk h3k] at hrq
   generalize Pj.txt n true=T at *
   generalize Pj.txt k true=U at *
   rw[pd_cells n,pd_cells m] at heq
   rw[pd_cells n] at hps hprint hrq
   rw[pd_cells m] at hpT hpm
   rw[pd_cells k] at hpt hpk hsm hrq
   refine⟨⟨[n.cells.map .p,m.cells.map .p,k.cells.map .p],[]⟩,call_body (fc:=fc11) rfl rfl rfl rfl ?_⟩
   simp only[Nd.cells,List.map_cons,List.map_nil] at heq hps hprint hrq hpT hpm hpt hpk hsm⊢
   cases hU:(U==T)<;>rw[hU] at hrq<;>
    simp[fc11,evKC,evK,evGuard,put,Env.get,Env.keep,entry,Opd.ev,splice,cutAt,binD,strBin,unD,lenD,sub,clsP,cls,clsR,isCl,isW,apartRW,offB,apartWW,clash,insOk,finish,evRes,evRes1,D.cells,D.refsL,D.refs,D.toksL,D.toks,mkAgg,pures,eqD,ld_succ,ld_zero,st_succ,st_zero,oP,hhead,hs,ht,hps,hprint,hpT,heq,hpm,hpt,hpk,hsm,hrq,hU,kn,km,kk]
  ·subst dt
   generalize Pj.txt n true=T at *
   rw[pd_cells n,pd_cells m] at heq
   rw[pd_cells n] at hps hprint
   rw[pd_cells m] at hpT hpm
   rw[pd_cells k] at hpt
   refine⟨⟨[n.cells.map .p,m.cells.map .p,k.cells.map .p],[]⟩,call_body (fc:=fc11) rfl rfl rfl rfl ?_⟩
   simp only[Nd.cells,List.map_cons,List.map_nil] at heq hps hprint hpT hpm hpt⊢
   simp[fc11,evKC,evK,evGuard,put,Env.get,Env.keep,entry,Opd.ev,splice,cutAt,binD,strBin,unD,lenD,sub,clsP,cls,isW,apartRW,offB,apartWW,clash,insOk,finish,evRes,evRes1,D.cells,mkAgg,pures,D.elems?,ld_succ,ld_zero,st_succ,st_zero,oP,hhead,hs,ht,hps,hprint,hpT,heq,hpm,hpt,kn,km,kk]
 ·subst ds
  rw[pd_cells n] at hps
  refine⟨⟨[n.cells.map .p],[]⟩,call_body (fc:=fc11) rfl rfl rfl rfl ?_⟩
  simp only[Nd.cells,List.map_cons,List.map_nil] at hps⊢
  simp[fc11,evKC,evK,evGuard,put,Env.get,Env.keep,entry,Opd.ev,splice,binD,lenD,finish,evRes,evRes1,D.cells,D.elems?,st_zero,oP,hhead,hs,ht,hps,kn]
end Go.Proofs.YtalgjkpkkdljaaaGreatDoor
namespace Go.Proofs.YtalgjkpkkdljaaaGreatDoor
open Go.Vs Go.ChangeShapes Go.WideShapes Go.RowKit
end Go.Proofs.YtalgjkpkkdljaaaGreatDoor
