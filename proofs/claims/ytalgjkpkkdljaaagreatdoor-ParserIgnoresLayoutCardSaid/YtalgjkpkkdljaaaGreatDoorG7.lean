/-
  A value-level evaluator for Go functions; the functions of this cut by it; plain laws. Part 7 of 7.
-/
import Derived.Test.YtalgjkpkkdljaaaGreatDoorG6
import Derived.Test.YtalgjkpkkdljaaaGreatDoorG4
namespace Go.Proofs.YtalgjkpkkdljaaaGreatDoor
open Go.Vs
structure PartsB (q:Sp):Prop where
 fn:∀x∈q.F,x.2.1.length≤1000000
 pn:∀x∈q.P,x.2.1.length≤1000000
theorem sorts_len{c:Rd}{S:List (List UInt8×Bool)}:∀(n:Nat) (l:List Nat) (a:Nat) (l':List Nat) (a':Nat),sortsP c S n l a= .ok l' a'→l'.length≤l.length+n
 | 0,l,a,l',a',h=>by cases h;omega
 |n+1,l,a,l',a',h=>by
  unfold sortsP at h
  split at h
  ·obtain⟨i,b,h1,h⟩:=bind_inv h
   have:=sorts_len n _ _ _ _ h
   simp at this;omega
  ·cases h;omega
theorem params_len{c:Rd}{S:List (List UInt8×Bool)}:∀(n:Nat) (l:List (List UInt8×Nat)) (a:Nat) (l':List (List UInt8×Nat)) (a':Nat),paramsP c S n l a= .ok l' a'→l'.length≤l.length+n
 | 0,l,a,l',a',h=>by cases h;omega
 |n+1,l,a,l',a',h=>by
  unfold paramsP at h
  split at h
  ·cases h;omega
  ·obtain⟨_,_,h1,h⟩:=bind_inv h
   obtain⟨_,_,h2,h⟩:=bind_inv h
   obtain⟨_,_,h3,h⟩:=bind_inv h
   obtain⟨_,_,h4,h⟩:=bind_inv h
   have:=params_len n _ _ _ _ h
   simp at this;omega
theorem decl_bd{c:Rd}(hc:c.Sz){q:Sp}(hb:PartsB q){a:Nat}{q':Sp}{a':Nat}(hw:declP c q a= .ok q' a'):PartsB q':=by
 have hn:=hc.n
 unfold declP at hw
 split at hw
 ·unfold sortDeclP at hw
  split at hw
  ·cases hw
  ·obtain⟨t,b,h1,hw⟩:=bind_inv hw
   obtain⟨u,b2,h2,hw⟩:=bind_inv hw
   cases hw
   exact⟨hb.fn,hb.pn⟩
 ·split at hw
  ·unfold fieldDeclP at hw
   split at hw
   ·cases hw
   ·obtain⟨u,b,h1,hw⟩:=bind_inv hw
    obtain⟨t,b2,h2,hw⟩:=bind_inv hw
    obtain⟨u3,b3,h3,hw⟩:=bind_inv hw
    obtain⟨i,b4,h4,hw⟩:=bind_inv hw
    obtain⟨l,b5,h5,hw⟩:=bind_inv hw
    obtain⟨u6,b6,h6,hw⟩:=bind_inv hw
    cases hw
    have:=sorts_len _ _ _ _ _ h5
    refine⟨fun x hx=>?_,hb.pn⟩
    rcases List.mem_append.1 hx with r |r
    ·exact hb.fn x r
    ·rw[List.mem_singleton.1 r];simp at this⊢;omega
  ·split at hw
   ·unfold predDeclP at hw
    split at hw
    ·cases hw
    ·obtain⟨t,b,h1,hw⟩:=bind_inv hw
     obtain⟨u,b2,h2,hw⟩:=bind_inv hw
     obtain⟨l,b3,h3,hw⟩:=bind_inv hw
     obtain⟨n,b4,h4,hw⟩:=bind_inv hw
     cases hw
     have:=params_len _ _ _ _ _ h3
     refine⟨hb.fn,fun x hx=>?_⟩
     rcases List.mem_append.1 hx with r |r
     ·exact hb.pn x r
     ·rw[List.mem_singleton.1 r];simp at this⊢;omega
   ·split at hw
    ·unfold factDeclP at hw
     split at hw
     ·cases hw
     ·obtain⟨t,b,h1,hw⟩:=bind_inv hw
      obtain⟨n,b2,h2,hw⟩:=bind_inv hw
      cases hw
      exact⟨hb.fn,hb.pn⟩
    ·exact absurd hw wrongP_bad
theorem specL_bd{s:List UInt8}(hs:s.length≤20000):∀(n a:Nat) (q:Sp),PartsB q→PartsB (specL s n q a)
 | 0,a,q,hb=>hb
 |n+1,a,q,hb=>by
  have h:(rdS s q).Sz:=rdX_sz s _ _ _ _ _ hs
  unfold specL
  split
  ·split
   ·rename_i q' a' hd
    exact specL_bd hs n a' q' (decl_bd h hb hd)
   ·rename_i e p a' hd
    split
    ·exact⟨hb.fn,hb.pn⟩
    ·exact specL_bd hs n _ _ ⟨hb.fn,hb.pn⟩
  ·exact hb
def paQ(s:List UInt8):Sp×List PD:=
 if(Lx.lex s).2.1≠0 then(q0,[dg (Lx.lex s).2.1 (Lx.lex s).2.2])
 else if(parseS s).f=[] then(parseS s,[]) else(q0,(parseS s).f)
structure PaX (s:List UInt8) (AD:D) (x0 x1 x2 x3 d:PD):Prop where
 eq:parseD s= .tup [AD,.p d]
 st:∀a tk,storeD ⟨a++[[.p .nils,.p .nils,.p .nils,.p .nils]],tk⟩ 4 (.box a.length 0) AD=some ⟨a++[[.p x0,.p x1,.p x2,.p x3]],tk⟩
 sp:SpR x0 x1 x2 x3 (paQ s).1
 rd:Row 2 d (paQ s).2
 n:SpN (paQ s).1
 w:(paQ s).1.Wf
 ne:(paQ s).2.length≤20
 ag:AD= .p (.agg [x0,x1,x2,x3])∨AD= .agg [.p x0,.p x1,.p x2,.p x3]
theorem st_zz(a:List (List D))(tk:List Nat)(x0 x1 x2 x3:PD)(h0:(D.p x0).one=true)(h1:(D.p x1).one=true)(h2:(D.p x2).one=true)(h3:(D.p x3).one=true):storeD ⟨a++[[.p .nils,.p .nils,.p .nils,.p .nils]],tk⟩ 4 (.box a.length 0) (.p (.agg [x0,x1,x2,x3]))=some ⟨a++[[.p x0,.p x1,.p x2,.p x3]],tk⟩:=by
 simp[storeD,isMapC,D.cells,h0,h1,h2,h3,splice]
theorem st_dd(a:List (List D))(tk:List Nat)(x0 x1 x2 x3:PD)(h0:(D.p x0).one=true)(h1:(D.p x1).one=true)(h2:(D.p x2).one=true)(h3:(D.p x3).one=true):storeD ⟨a++[[.p .nils,.p .nils,.p .nils,.p .nils]],tk⟩ 4 (.box a.length 0) (.agg [.p x0,.p x1,.p x2,.p x3])=some ⟨a++[[.p x0,.p x1,.p x2,.p x3]],tk⟩:=by
 simp[storeD,isMapC,D.cells,h0,h1,h2,h3,splice]
theorem q0_spn:SpN q0:=⟨by decide,by decide,by decide,by decide,fun x hx=>(List.not_mem_nil hx).elim,fun x hx=>(List.not_mem_nil hx).elim,fun x hx=>(List.not_mem_nil hx).elim,fun x hx=>(List.not_mem_nil hx).elim⟩
theorem pa_x(s:List UInt8):∃AD x0 x1 x2 x3 d,PaX s AD x0 x1 x2 x3 d:=by
 have z:(D.p .nils).one=true:=rfl
 by_cases he:(Lx.lex s).2.1=0
 ·have hs:=lex_small he
  have hts:(rdS s q0).ts.length=(Lx.lex s).1.length:=by rw[show(rdS s q0).ts=(Lx.lex s).1 from rdX_ts ..]
  obtain⟨w1,w2,w3⟩:=specL_ok hs ((Lx.lex s).1.length+1) 0 q0 wf_q0 (fun x hx=>(List.not_mem_nil hx).elim) (by decide) (Nat.zero_le _)
  rw[show specL s ((Lx.lex s).1.length+1) q0 0=parseS s from rfl] at w1 w2 w3
  have hbd:PartsB (parseS s):=specL_bd hs _ _ _ ⟨fun x hx=>(List.not_mem_nil hx).elim,fun x hx=>(List.not_mem_nil hx).elim⟩
  by_cases hf:(parseS s).f=[]
  ·have hq:paQ s=(parseS s,[]):=by unfold paQ;rw[if_neg (fun q=>q he),if_pos hf]
   refine⟨(parseS s).d,.slice 2 ((parseS s).S.map sPD),.slice 3 ((parseS s).F.map fPD),.slice 7 ((parseS s).P.map pPD),.slice 6 ((parseS s).A.map aPD),.nils,?_⟩
   refine⟨?_,fun a tk=>st_dd _ _ _ _ _ _ rfl rfl rfl rfl,?_,?_,?_,?_,?_,.inr rfl⟩
   ·unfold parseD;rw[if_neg (fun q=>q he),if_pos hf]
   ·rw[hq];exact⟨row_slice 2 _,row_slice 3 _,row_slice 7 _,row_slice 6 _⟩
   ·rw[hq];exact row_nils 2
   ·rw[hq]
    refine⟨by have:=w1.S;show(parseS s).S.length≤_;omega,by have:=w1.F;show(parseS s).F.length≤_;omega,by have:=w1.P;show(parseS s).P.length≤_;omega,by have:=w1.A;show(parseS s).A.length≤_;omega,hbd.fn,hbd.pn,fun x hx=>?_,fun x hx=>?_⟩
    ·have:=valid_size (w1.pv x hx).1;omega
    ·have:=valid_size (w1.av x hx).1;omega
   ·rw[hq];exact w1
   ·rw[hq];exact Nat.zero_le _
  ·have hq:paQ s=(q0,(parseS s).f):=by unfold paQ;rw[if_neg (fun q=>q he),if_neg hf]
   refine⟨z4,.nils,.nils,.nils,.nils,.slice 2 (parseS s).f,?_⟩
   refine⟨?_,fun a tk=>st_zz _ _ _ _ _ _ z z z z,?_,?_,?_,?_,?_,.inl rfl⟩
   ·unfold parseD;rw[if_neg (fun q=>q he),if_neg hf]
   ·rw[hq];exact⟨row_nils 2,row_nils 3,row_nils 7,row_nils 6⟩
   ·rw[hq];exact row_slice 2 _
   ·rw[hq];exact q0_spn
   ·rw[hq];exact wf_q0
   ·rw[hq];exact w3
 ·have hq:paQ s=(q0,[dg (Lx.lex s).2.1 (Lx.lex s).2.2]):=by unfold paQ;rw[if_pos he]
  refine⟨z4,.nils,.nils,.nils,.nils,.slice 2 [dg (Lx.lex s).2.1 (Lx.lex s).2.2],?_⟩
  refine⟨?_,fun a tk=>st_zz _ _ _ _ _ _ z z z z,?_,?_,?_,?_,?_,.inl rfl⟩
  ·unfold parseD;rw[if_pos he]
  ·rw[hq];exact⟨row_nils 2,row_nils 3,row_nils 7,row_nils 6⟩
  ·rw[hq];exact row_slice 2 _
  ·rw[hq];exact q0_spn
  ·rw[hq];exact wf_q0
  ·rw[hq];exact(by simp)
theorem sum_lexL:∀(n:Nat) (r:List UInt8),r.length<n→((Lx.lexL r).1.map (fun t:Lx.T0=>t.t.length)).sum≤r.length:=by
 intro n
 induction n with
 |zero=>intro r h;omega
 |succ n ih=>
  intro r hn
  rcases Lx.lex_cases r with h |⟨h,hb⟩ |⟨h,hb⟩
  ·rw[Lx.lexL_end h];simp
  ·rw[Lx.lexL_bad h hb];simp
  ·rw[Lx.lexL_good hb]
   have h1:=Lx.behind_len hb
   have h2:=Lx.tok_len (Lx.sk false r)
   have h3:=Lx.sk_len false r
   have h4:=ih (Lx.behind r) (by omega)
   have h5:(Lx.behind r).length=(Lx.sk false r).length-(Lx.tokS (Lx.sk false r)).2.1.length:=by unfold Lx.behind;rw[List.length_drop]
   have h6:(Lx.nextT r).t.length=(Lx.tokS (Lx.sk false r)).2.1.length:=rfl
   simp only[List.map_cons,List.sum_cons]
   omega
theorem lex_sum{s:List UInt8}(hs:s.length≤20000):((Lx.lex s).1.map (fun x=>x.t.length)).sum≤s.length:=by
 rw[Lx.lex_lexR hs]
 have hv:=sum_lexL (s.length+1) s (by omega)
 unfold Lx.lexL at hv
 unfold Lx.asLexed
 split
 ·simpa[List.map_map,Function.comp_def,Lx.T0.tok] using hv
 ·simp
theorem ly_bound{how:List UInt8}{ts:List Tok}:∀i,i≤ts.length→(lyT how ts i).length≤5*i+((ts.take i).map (fun x=>x.t.length)).sum
 | 0,_=>Nat.zero_le _
 |i+1,h=>by
  have ih:=ly_bound (how:=how) (ts:=ts) i (by omega)
  have hg:(gp how i).length≤5:=gap_len _ (gp_mem how i)
  rw[lyT_succ (by omega),List.take_add_one,List.getElem?_eq_getElem (show i<ts.length by omega)]
  simp only[List.length_append,List.map_append,List.map_cons,List.map_nil,List.sum_append,List.sum_cons,List.sum_nil,Option.toList]
  omega
theorem ly_len{how:List UInt8}{ts:List Tok}(h1:(ts.map (fun x=>x.t.length)).sum≤4000)(h2:∀x∈ts,1≤x.t.length)(h3:∀i,i<ts.length→(lyT how ts i).length<16000):(lyT how ts ts.length).length≤20000:=by
 rcases Nat.eq_zero_or_pos ts.length with q |q
 ·rw[q];exact Nat.zero_le _
 ·obtain⟨n,hn⟩:∃n,ts.length=n+1:=⟨ts.length-1,by omega⟩
  have b1:=ly_bound (how:=how) (ts:=ts) ts.length (Nat.le_refl _)
  rw[List.take_length] at b1
  have hnt:n<ts.length:=by omega
  have hg:(gp how n).length≤5:=gap_len _ (gp_mem how n)
  have b2:(lyT how ts ts.length).length≤16004+ts[n].t.length:=by
   rw[hn,lyT_succ hnt]
   have:=h3 n hnt
   simp;omega
  have hsum:((ts.take n).map (fun x=>x.t.length)).sum+ts[n].t.length=(ts.map (fun x=>x.t.length)).sum:=by
   have ht:ts=ts.take n++[ts[n]]:=by
    have:=List.take_add_one (l:=ts) (i:=n)
    rw[List.getElem?_eq_getElem hnt,←hn,List.take_length] at this
    exact this
   have:=congrArg (fun l:List Tok=>(l.map (fun x=>x.t.length)).sum) ht
   simp only[List.map_append,List.sum_append,List.map_cons,List.map_nil,List.sum_cons,List.sum_nil,Nat.add_zero] at this
   exact this.symm
  have hone:∀l:List Tok,(∀x∈l,1≤x.t.length)→l.length≤(l.map (fun x=>x.t.length)).sum:=fun l=>by
   induction l with
   |nil=>intro _;exact Nat.le_refl _
   |cons a l ih=>
    intro h
    have:=ih (fun x hx=>h x (List.mem_cons_of_mem _ hx))
    have:=h a List.mem_cons_self
    simp only[List.length_cons,List.map_cons,List.sum_cons];omega
  have h4:=hone (ts.take n) (fun x hx=>h2 x (List.mem_of_mem_take hx))
  rw[List.length_take] at h4
  have h5:min n ts.length=n:=by omega
  rw[h5] at h4
  omega
structure Lay2 (s t:List UInt8) (o n:List Nat):Prop where
 hs:s.length≤20000
 ht:t.length≤20000
 es:(Lx.lex s).2.1=0
 et:(Lx.lex t).2.1=0
 hk:∀i,ktAt (rdF s []) i=ktAt (rdF t []) i
 pos:∀j:Nat,∃k:Nat,o[k]? =some ((rdF s []).tok j).p∧n[k]? =some ((rdF t []).tok j).p
theorem tok_get{s:List UInt8}{j:Nat}:(rdF s []).tok j=((Lx.lex s).1[j]?).getD ⟨0,[],s.length⟩:=by
 rcases Nat.lt_or_ge j (rdF s []).ts.length with q |q
 ·rw[tok_in q]
  rw[rdF_ts] at q
  rw[List.getElem?_eq_getElem q]
  simp only[rdF_ts,Option.getD_some]
 ·rw[tok_out q]
  rw[rdF_ts] at q
  rw[List.getElem?_eq_none q]
  rfl
theorem lay_two{s:List UInt8}(how:List UInt8)(hs:s.length≤4000)(he:(Lx.lex s).2.1=0)(h3:∀i,i<(Lx.lex s).1.length→(lyT how (Lx.lex s).1 i).length<16000):
    Lay2 s (lyT how (Lx.lex s).1 (Lx.lex s).1.length) ((Lx.lex s).1.map (·.p)++[s.length]) (lyN how (Lx.lex s).1 (Lx.lex s).1.length++[(lyT how (Lx.lex s).1 (Lx.lex s).1.length).length]):=by
 have hsum:=lex_sum (s:=s) (by omega)
 have hpos:∀x∈(Lx.lex s).1,1≤x.t.length:=fun x hx=>by
  obtain⟨j,hj,rfl,hok⟩:=Lx.lex_mem hx
  exact Lx.tok_pos hj hok
 have hlen:=ly_len (how:=how) (by omega) hpos h3
 have hvt:=Lx.lex_vtok (s:=s) (by omega) he
 have hlay:Lx.Lay (psL how 0 (Lx.lex s).1):=by
  generalize (Lx.lex s).1=ts at *
  have :∀(l:List Tok) (i:Nat),(∀x∈l,Lx.VTok x.k x.t)→Lx.Lay (psL how i l):=fun l=>by
   induction l with
   |nil=>intro i _ p hp;cases hp
   |cons a l ih=>
    intro i h p hp
    rcases List.mem_cons.1 hp with rfl |q
    ·exact⟨gp_mem how i,h a List.mem_cons_self⟩
    ·exact ih (i+1) (fun x hx=>h x (List.mem_cons_of_mem _ hx)) p q
  exact this ts 0 hvt
 have hT:lyT how (Lx.lex s).1 (Lx.lex s).1.length=Lx.jn (psL how 0 (Lx.lex s).1):=by unfold lyT;rw[List.take_length]
 have hN:lyN how (Lx.lex s).1 (Lx.lex s).1.length=Lx.nowL 0 (psL how 0 (Lx.lex s).1):=by unfold lyN;rw[List.take_length]
 rw[hT] at hlen
 rw[hT,hN]
 obtain⟨h1,h2,h4⟩:=Lx.lex_jn hlay hlen
 generalize hjt:Lx.jn (psL how 0 (Lx.lex s).1)=t at *
 have hts:(Lx.lex t).1=(Lx.tks (psL how 0 (Lx.lex s).1)).map (Lx.T0.tok t.length):=by rw[h1]
 rw[←hts] at h2 h4
 rw[psL_kt] at h2
 have hln:(Lx.lex t).1.length=(Lx.lex s).1.length:=by have:=congrArg List.length h2;simpa using this
 have hget:∀j:Nat,((Lx.lex t).1[j]?).map (fun x=>(x.k,x.t))=((Lx.lex s).1[j]?).map (fun x=>(x.k,x.t)):=fun j=>by
  have:=congrArg (fun l=>l[j]?) h2
  simpa using this
 refine⟨by omega,hlen,he,by rw[h1],fun j=>?_,fun j=>?_⟩
 ·have:=hget j
  unfold ktAt
  rw[tok_get,tok_get]
  rcases Nat.lt_or_ge j (Lx.lex s).1.length with q |q
  ·have q':j<(Lx.lex t).1.length:=by omega
   rw[List.getElem?_eq_getElem q,List.getElem?_eq_getElem q'] at this⊢
   simpa using this.symm
  ·rw[List.getElem?_eq_none q,List.getElem?_eq_none (by omega)]
   rfl
 ·rw[tok_get,tok_get]
  rcases Nat.lt_or_ge j (Lx.lex s).1.length with q |q
  ·have q':j<(Lx.lex t).1.length:=by omega
   refine⟨j,?_,?_⟩
   ·rw[List.getElem?_append_left (by simpa using q),List.getElem?_map,List.getElem?_eq_getElem q];rfl
   ·rw[←h4,List.getElem?_append_left (by simpa using q'),List.getElem?_map,List.getElem?_eq_getElem q'];rfl
  ·refine⟨(Lx.lex s).1.length,?_,?_⟩
   ·rw[List.getElem?_eq_none q,List.getElem?_append_right (by simp)];simp
   ·rw[List.getElem?_eq_none (l:=(Lx.lex t).1) (by omega),←h4,List.getElem?_append_right (by simp;omega)];simp[hln]
section
variable {s t : List UInt8} {o n : List Nat} (L : Lay2 s t o n)
include L
theorem fr_moved{f g:List PD}(h:FR s t f g):∀i,i<f.length→∃(e:Int) (p p' k:Nat),f[i]? =some (dg e p)∧g[i]? =some (dg e p')∧o[k]? =some p∧n[k]? =some p':=by
 induction h with
 |nil=>intro i hi;cases hi
 |cons hx _ ih=>
  intro i hi
  cases i with
  |zero=>
   obtain⟨e,j,rfl,rfl⟩:=hx
   obtain⟨k,h1,h2⟩:=L.pos j
   exact⟨e,_,_,k,rfl,rfl,h1,h2⟩
  |succ i=>exact ih i (by simpa using hi)
theorem pq_eq:EQ (paQ s).1 (paQ t).1∧FR s t (paQ s).2 (paQ t).2:=by
 obtain⟨h1,h2⟩:=parseS_kt L.hs L.ht L.hk
 have hl:=h2.len
 have hq:EQ q0 q0:=⟨rfl,rfl,rfl,rfl⟩
 unfold paQ
 rw[if_neg (c:=(Lx.lex s).2.1≠0) (fun q=>q L.es),if_neg (c:=(Lx.lex t).2.1≠0) (fun q=>q L.et)]
 by_cases hf:(parseS s).f=[]
 ·have hg:(parseS t).f=[]:=by rw[hf] at hl;exact List.eq_nil_of_length_eq_zero hl.symm
  rw[if_pos hf,if_pos hg]
  exact⟨h1,.nil⟩
 ·have hg:¬(parseS t).f=[]:=fun q=>by rw[q] at hl;exact hf (List.eq_nil_of_length_eq_zero hl)
  rw[if_neg hf,if_neg hg]
  exact⟨hq,h2⟩
theorem pf_two:(pf s).1.er=(pf t).1.er∧∃f g,Row 2 (pf s).2 f∧Row 2 (pf t).2 g∧FR s t f g∧f.length≤1:=by
 have h:=formula_kt L.hs L.ht L.hk
 unfold pf
 rw[if_neg (c:=(Lx.lex s).2.1≠0) (fun q=>q L.es),if_neg (c:=(Lx.lex t).2.1≠0) (fun q=>q L.et)]
 cases r:formulaP (rdF s []) with
 |ok a b=>
  rw[r] at h
  obtain⟨n',a',h1,h2⟩:=h
  rw[h1]
  exact⟨h2,[],[],row_nils 2,row_nils 2,.nil,Nat.zero_le _⟩
 |bad e p a=>
  rw[r] at h
  obtain⟨p',a',j,h1,h2,h3⟩:=h
  rw[h1]
  exact⟨rfl,[dg e p],[dg e p'],row_slice 2 _,row_slice 2 _,.cons ⟨e,j,by rw[h2],by rw[h3]⟩ .nil,Nat.le_refl _⟩
end
end Go.Proofs.YtalgjkpkkdljaaaGreatDoor
namespace Go.Proofs.YtalgjkpkkdljaaaGreatDoor
open Go.Vs
theorem ld_sp0{G:Nat→Option (List PD)}{x0 x1 x2 x3:PD}{bx:List (List D)}{tk:List Nat}:loadD G ⟨[.p x0,.p x1,.p x2,.p x3]::bx,tk⟩ (some 4) (.box 0 0)=some (.p (.agg [x0,x1,x2,x3])):=rfl
theorem ld_sp1{G:Nat→Option (List PD)}{x0 x1 x2 x3:PD}{b:List D}{bx:List (List D)}{tk:List Nat}:loadD G ⟨b::[.p x0,.p x1,.p x2,.p x3]::bx,tk⟩ (some 4) (.box 1 0)=some (.p (.agg [x0,x1,x2,x3])):=rfl
theorem ld_nd2{G:Nat→Option (List PD)}{n:Nd}{a b:List D}{bx:List (List D)}{tk:List Nat}:loadD G ⟨a::b::n.cells.map .p::bx,tk⟩ (some 5) (.box 2 0)=some (.p n.pd):=by rw[pd_cells];rfl
theorem ld_nd3{G:Nat→Option (List PD)}{n:Nd}{a b c:List D}{bx:List (List D)}{tk:List Nat}:loadD G ⟨a::b::c::n.cells.map .p::bx,tk⟩ (some 5) (.box 3 0)=some (.p n.pd):=by rw[pd_cells];rfl
theorem st_nd(n:Nd)(a:List (List D))(tk:List Nat):storeD ⟨a++[zN0.map .p],tk⟩ 5 (.box a.length 0) (.p n.pd)=some ⟨a++[n.cells.map .p],tk⟩:=by
 have kn:=pone_kids n
 have cn:=kids_cells n
 rw[pd_cells n]
 simp[zN0,storeD,isMapC,D.cells,Nd.cells,kn,splice,D.one,show ∀k v,(PD.int k v).one=true from fun _ _=>rfl,show ∀s,(PD.str s).one=true from fun _=>rfl]
theorem pf_size(s:List UInt8):(pf s).1.size≤1000000000:=by
 by_cases he:(Lx.lex s).2.1=0
 ·cases r:formulaP (rdF s []) with
  |ok n a=>
   have h:pf s=(n,.nils):=by unfold pf;rw[if_neg (fun q=>q he),r]
   have:=valid_size (pf_valid h).1
   rw[h]
   show n.size≤_
   omega
  |bad e p a=>
   have h:pf s=(zeroN,.slice 2 [dg e p]):=by unfold pf;rw[if_neg (fun q=>q he),r]
   rw[h]
   show zeroN.size≤_
   decide
 ·have h:pf s=(zeroN,.slice 2 [dg (Lx.lex s).2.1 (Lx.lex s).2.2]):=by unfold pf;rw[if_pos he]
  rw[h]
  show zeroN.size≤_
  decide
theorem lex_big{s:List UInt8}(h:20000<s.length)(H:Hp):callD (call pg) 26 [.p (.str s)] H=some (.val (.tup [.p .nils,.p (.int .i64 2),.p (.int .i64 0)]),H):=by
 refine callD_any (d:=.tup [.p .nils,.p (.int .i64 2),.p (.int .i64 0)]) ⟨⟨[],[]⟩,call_body (fc:=fc26) rfl rfl rfl rfl ?_⟩ rfl rfl rfl rfl H
 have h:(20000 :Int)<s.length:=by omega
 simp[fc26,evKC,evK,put,Env.get,Env.keep,entry,Opd.ev,binD,finish,evRes,evRes1,mapO,lenD_str,h]
theorem law6_of(s:List UInt8)(how:List UInt8)(w:PD)(hw:Row 1 w (how.map uPD)):∃H',call pg 6 [.p (.str s),.p w] ⟨[],[]⟩=some (.val (.p (.bool true)),H'):=by
 have hhead:=head13_call
 by_cases hs:(4000 :Int)<(s.length:Int)
 ·by_cases hs2:20000<s.length
  ·have hlex:=fun H=>lex_big hs2 H
   exact⟨⟨[],[]⟩,call_body (fc:=fc6) rfl rfl rfl rfl (by simp[fc6,evKC,evK,evGuard,put,Env.get,Env.keep,entry,Opd.ev,binD,finish,evRes,evRes1,lenD_str,hhead,hlex,hs])⟩
  ·have hlex:=fun H=>Lx.lex_eq s (by omega) H
   simp only[Lx.Lexed.d] at hlex
   exact⟨⟨[],[]⟩,call_body (fc:=fc6) rfl rfl rfl rfl (by simp[fc6,evKC,evK,evGuard,put,Env.get,Env.keep,entry,Opd.ev,binD,finish,evRes,evRes1,lenD_str,hhead,hlex,hs])⟩
 have hlex:=fun H=>Lx.lex_eq s (by omega) H
 simp only[Lx.Lexed.d] at hlex
 by_cases he:(Lx.lex s).2.1=0
 case neg=>
  have he2:(((Lx.lex s).2.1 :Int)!=0)=true:=by simp;omega
  exact⟨⟨[],[]⟩,call_body (fc:=fc6) rfl rfl rfl rfl (by simp[fc6,evKC,evK,evGuard,put,Env.get,Env.keep,entry,Opd.ev,binD,finish,evRes,evRes1,lenD_str,hhead,hlex,hs,he2])⟩
 have he2:(((Lx.lex s).2.1 :Int)!=0)=false:=by simp[he]
 have htk:(Lx.lex s).toks= .slice 3 ((Lx.lex s).1.map Tok.pd):=by unfold Lx.Lexed.toks;rw[if_pos he]
 rw[htk] at hlex
 have hln:(Lx.lex s).1.length≤20000:=by have:=Lx.lex_len s;omega
 have htl:∀x∈(Lx.lex s).1,x.t.length≤1000000:=by
  have:=(rdF_sz s [] (by omega)).t
  rw[rdF_ts] at this
  exact this
 have hoff:=fun H=>offs_eq (Lx.lex s).1 s.length (by omega) H
 obtain⟨n,h1,h2,h3,s',e1,q1,q2,q3,q4,q5,q6,q7⟩:=ly_loop (s:=s) (old:=((Lx.lex s).1.map (·.p)++[s.length]).map iPD) hw hln htl
 obtain⟨env,hp⟩:=s'
 simp only at q1 q2 q3 q4 q5 q6 q7
 subst q1
 have hnl:=lyN_len how (Lx.lex s).1 n h1
 have htsl:lenD 1 (.p (.slice 3 ((Lx.lex s).1.map Tok.pd)))=some (Lx.lex s).1.length:=by rw[(row_slice 3 _).len,List.length_map]
 simp only[lyP,lyS,gapsD,show lyT how (Lx.lex s).1 0=[] from rfl,show lyN how (Lx.lex s).1 0=[] from rfl,List.map_nil,List.length_nil,Int.natCast_zero] at e1
 by_cases hn:n=(Lx.lex s).1.length
 case neg=>
  have hlt:((lyN how (Lx.lex s).1 n).length:Int)<((Lx.lex s).1.length:Int):=by omega
  have hN:((lyN how (Lx.lex s).1 n).map iPD).length=(lyN how (Lx.lex s).1 n).length:=List.length_map ..
  generalize (lyN how (Lx.lex s).1 n).map iPD=NW at *
  generalize ((Lx.lex s).1.map (·.p)++[s.length]).map iPD=OLD at *
  refine⟨⟨[],[(lyN how (Lx.lex s).1 n).length]⟩,call_body (fc:=fc6) rfl rfl rfl rfl ?_⟩
  simp[fc6,evKC,evK,evGuard,put,Env.keep,entry,Opd.ev,binD,finish,evRes,evRes1,PD.one,PD.cells,fillE,D.asPD,lenD_str,lenD_tsl,tokD,hhead,hlex,hs,he2,hoff,e1,q2,q3,q4,q5,q6,q7,htsl,hN,hlt,Env.get]
 subst hn
 have L:=lay_two how (by omega) he h3
 generalize lyT how (Lx.lex s).1 (Lx.lex s).1.length=t at *
 generalize lyN how (Lx.lex s).1 (Lx.lex s).1.length=now at *
 have hts:t.length≤20000:=L.ht
 have hlt:¬(now.length:Int)<((Lx.lex s).1.length:Int):=by omega
 obtain⟨AD,x0,x1,x2,x3,d,X⟩:=pa_x s
 obtain⟨AE,y0,y1,y2,y3,d',Y⟩:=pa_x t
 have hpa:=fun H=>pa_eq s (by omega) H
 have hpb:=fun H=>pa_eq t (by omega) H
 rw[X.eq] at hpa
 rw[Y.eq] at hpb
 obtain⟨hEQ,hFR⟩:=pq_eq L
 obtain⟨hER,f,g,hf,hg,hfr,hf1⟩:=pf_two L
 have hss:=fun H=>ss_eq x0 x1 x2 x3 y0 y1 y2 y3 _ _ X.sp Y.sp X.n hEQ H
 have hpf:=fun H=>pf_eq s (by omega) H
 have hpg:=fun H=>pf_eq t (by omega) H
 have hol:((Lx.lex s).1.map (·.p)++[s.length]).length=(now++[t.length]).length:=by simp[hnl]
 have hnn:(now++[t.length]).length≤1000000:=by simp;omega
 have hm1:=fun(tk:Nat) (H:Hp) (h:H.tk[tk]? =some (now++[t.length]).length)=>moved_eq X.rd Y.rd hol hnn (by have:=X.ne;omega) hFR.len (fr_moved L hFR) h
 have hm2:=fun(tk:Nat) (H:Hp) (h:H.tk[tk]? =some (now++[t.length]).length)=>moved_eq hf hg hol hnn (by omega) hfr.len (fr_moved L hfr) h
 have hsame:=same_er 1000000000 (pf s).1 (pf t).1 (pf_size s) (Nat.le_refl _) hER
 have hN:(now.map iPD).length=now.length:=List.length_map ..
 rw[List.map_append (l₁:=now)] at hm1 hm2
 rw[show[t.length].map iPD=[PD.int .i64 (t.length:Int)] from rfl] at hm1 hm2
 rw[List.length_append] at hm1 hm2
 generalize now.map iPD=NW at *
 generalize ((Lx.lex s).1.map (·.p)++[s.length]).map iPD=OLD at *
 have hst0:=X.st []
 have hst1:=Y.st [[.p x0,.p x1,.p x2,.p x3]]
 have hst2:=st_nd (pf s).1 [[.p x0,.p x1,.p x2,.p x3],[.p y0,.p y1,.p y2,.p y3]]
 have hst3:=st_nd (pf t).1 [[.p x0,.p x1,.p x2,.p x3],[.p y0,.p y1,.p y2,.p y3],(pf s).1.cells.map .p]
 simp only[zN0,List.nil_append,List.cons_append,List.map_cons,List.map_nil,List.length_nil,List.length_cons,Nat.zero_add] at hst0 hst1 hst2 hst3
 have hl2:=fun G tk bx=>ld_nd2 (G:=G) (n:=(pf s).1) (a:=[.p x0,.p x1,.p x2,.p x3]) (b:=[.p y0,.p y1,.p y2,.p y3]) (bx:=bx) (tk:=tk)
 have hl3:=fun G tk bx=>ld_nd3 (G:=G) (n:=(pf t).1) (a:=[.p x0,.p x1,.p x2,.p x3]) (b:=[.p y0,.p y1,.p y2,.p y3]) (c:=(pf s).1.cells.map .p) (bx:=bx) (tk:=tk)
 generalize (pf s).1.cells.map D.p=C at *
 generalize (pf t).1.cells.map D.p=C' at *
 generalize (pf s).1.pd=P at *
 generalize (pf t).1.pd=P' at *
 have hroom:roomy (now.length+1) 8=true:=by simp only[roomy,Bool.and_eq_true,decide_eq_true_eq];omega
 have hm1':=hm1 0 ⟨[[.p x0,.p x1,.p x2,.p x3],[.p y0,.p y1,.p y2,.p y3],C,C'],[now.length+1]⟩ rfl
 have hm2':=hm2 0 ⟨[[.p x0,.p x1,.p x2,.p x3],[.p y0,.p y1,.p y2,.p y3],C,C'],[now.length+1]⟩ rfl
 refine⟨⟨[[.p x0,.p x1,.p x2,.p x3],[.p y0,.p y1,.p y2,.p y3],C,C'],[now.length+1]⟩,call_body (fc:=fc6) rfl rfl rfl rfl ?_⟩
 simp[fc6,evKC,evK,evGuard,put,Env.keep,entry,Opd.ev,binD,finish,evRes,evRes1,PD.one,PD.cells,fillE,appendD,srcD,D.elems?,D.asPD,srcH,lenD_str,lenD_tsl,tokD,hhead,hlex,hs,he2,hoff,e1,q2,q3,q4,q5,q6,q7,htsl,hN,hlt,Env.get,hroom,hpa,hpb,hpf,hpg,hst0,hst1,hst2,hst3,ld_sp0,ld_sp1,hl2,hl3,hss,hsame,hm1',hm2']
end Go.Proofs.YtalgjkpkkdljaaaGreatDoor
namespace Go.Proofs.YtalgjkpkkdljaaaGreatDoor
open Go.Vs Go.ChangeShapes Go.WideShapes Go.RowKit
theorem row_bytes{x:PD}(h:x= .nils∨∃zs:List Int,x= .slice 1 (zs.map (PD.int .u8))∧∀n∈zs,(Lit.int .u8 n).wf=true):∃how:List UInt8,Row 1 x (how.map uPD):=by
 rcases h with rfl |⟨zs,rfl,hz⟩
 ·exact⟨[],row_nils 1⟩
 ·refine⟨zs.map (fun n=>UInt8.ofNat n.toNat),?_⟩
  have :(zs.map (fun n=>UInt8.ofNat n.toNat)).map uPD=zs.map (PD.int .u8):=by
   rw[List.map_map]
   refine List.map_congr_left fun n hn=>?_
   have hw:=hz n hn
   simp only[Lit.wf,Bool.and_eq_true,decide_eq_true_eq] at hw
   have h1:(0 :Int)≤n:=hw.1
   have h2:n≤(255 :Int):=hw.2
   simp only[Function.comp,uPD]
   congr 1
   simp only[UInt8.toNat_ofNat']
   omega
  rw[this]
  exact row_slice 1 _
theorem law6(s:List UInt8)(x:PD)(h:x= .nils∨∃zs:List Int,x= .slice 1 (zs.map (PD.int .u8))∧∀n∈zs,(Lit.int .u8 n).wf=true):∃H',call pg 6 [.p (.str s),.p x] ⟨[],[]⟩=some (.val (.p (.bool true)),H'):=by
 obtain⟨how,hw⟩:=row_bytes h
 exact law6_of s how x hw
end Go.Proofs.YtalgjkpkkdljaaaGreatDoor
