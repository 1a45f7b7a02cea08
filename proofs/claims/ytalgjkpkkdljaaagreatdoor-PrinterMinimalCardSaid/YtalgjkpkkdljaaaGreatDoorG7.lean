/-
  A value-level evaluator for Go functions; the functions of this cut by it; plain laws. Part 7 of 7.
-/
import Derived.Test.YtalgjkpkkdljaaaGreatDoorG6
import Derived.Test.YtalgjkpkkdljaaaGreatDoorG4
namespace Go.Proofs.YtalgjkpkkdljaaaGreatDoor
open Go.Vs
def Nx(c:Rd)(j:Nat)(cmp:Bool)(op:Int):Prop:=
 ∀b,lookT binT (c.tok j).t=some b→(c.tok j).k≠0→(b.lv=7→cmp=false)→(7≤b.lv→knd op≠3)→b.na≤lvN op
structure Sx (c:Rd) (lev i j:Nat) (cmp:Bool) (x:Nd):Prop where
 rf:Rf x
 an:lp c j+PT x true+1≤lp c i∨(lp c j+PT x true≤lp c i∧(Qn c j→lp c j+PT x false≤lp c i∧x.op≠45∧x.op≠46)∧(lev≤lvN x.op∨badK lev x.op)∧Nx c j cmp x.op)
theorem Sx.a{c:Rd}{lev i j:Nat}{cmp:Bool}{x:Nd}(h:Sx c lev i j cmp x):An c lev i j x:=by
 rcases h.an with q |⟨q1,q2,q3,_⟩
 ·exact .inl q
 ·exact .inr ⟨q1,q2,q3⟩
theorem lv_bop{op:Int}{e:BE}(h:lookO bopT op=some e):lvN op=e.lv:=by unfold lvN;rw[h]
theorem lv_pop{op:Int}{e:PE}(h:lookO popT op=some e):lvN op=e.lv:=by
 obtain⟨nb,_⟩:=pre_of h
 have hb:lookO bopT op=none:=by
  cases q:lookO bopT op with
  |none=>rfl
  |some f=>
   obtain⟨g,q1,_⟩:=bin_of q
   rw[nb] at q1;cases q1
 unfold lvN;rw[hb,h]
theorem nq_bare{op:Int}(h:nmd op=false):op≠45∧op≠46:=by
 constructor<;>intro q<;>rw[q] at h<;>cases h
section
variable {c : Rd} {prs : Nat → Nat → PR Nd} (hN : Nm0 c) (hD : Deep c prs)
include hN hD
theorem operand_pg{lev i:Nat}(l13:lev≤13)(l7:lev≠7){n:Nd}{j:Nat}(h:operandP c prs i= .ok n j):Sx c lev i j false n:=by
 have s1:=lp_step c i
 have hq:∀{op:Int} {p:Nat},(op=45∨op=46)→quantP c prs op p (i+1)= .ok n j→Sx c lev i j false n:=by
  intro op p ho h
  obtain⟨e1,e2,e3,e4⟩:=quant_pg hN hD (by rcases ho with q |q<;>simp[q]) h
  have hl:lvN n.op=15:=by rw[e1];rcases ho with q |q<;>rw[q]<;>rfl
  refine⟨.same e3,.inr ⟨by omega,fun q=>absurd q e4,.inl (by omega),fun b hb _ _ _=>?_⟩⟩
  have:=lv_ok hb
  omega
 have key:((primaryP c prs (c.tok i) i).bind fun n a=>primesP c (c.ts.length+1) n a)= .ok n j→Sx c lev i j false n:=by
  intro h
  obtain⟨x,b,h1,h⟩:=bind_inv h
  obtain⟨hr,hp⟩:=primes_pg _ _ _ _ _ (primary_pg hN hD h1) h
  refine⟨hr,?_⟩
  rcases hp with hp |⟨p1,p2,p3,p4,p5⟩
  ·exact .inl hp
  ·refine .inr ⟨p1,fun _=>⟨p2,p3,p4⟩,.inl (by omega),fun b hb _ _ _=>?_⟩
   have:=lv_ok hb
   omega
 unfold operandP at h
 dsimp only at h
 split at h
 ·exact hq (.inl rfl) h
 ·split at h
  ·exact hq (.inr rfl) h
  ·split at h
   ·rename_i p hp
    split at h
    ·obtain⟨x,b,h1,h⟩:=bind_inv h
     obtain⟨e,E⟩:=pOk hp
     have g:=hD _ _ _ _ E.p1 E.p13 E.n7 h1
     obtain⟨rfl,rfl,hf⟩:=node_inv h
     have hk:knd x.op=e.kd:=fits_one E.look E.kd hf
     have hb:¬badK p.lv x.op:=by
      rintro (⟨q,r⟩ |⟨q,r⟩)
      ·rw[hk,E.k8 (by rw[E.a];exact q)] at r;cases r
      ·rw[hk,E.k8 (by rw[E.a];omega)] at r;cases r
     have hpt:=fun f=>pt_pre (n:=kidsN p.op [] [x] (c.tok i).p) (x:=x) E.look rfl E.pc0 f
     rw[E.a] at hpt
     have u1:=use_t g.rf g.an hb
     have u2:=use_f g.rf g.an hb
     have q1:=hpt true
     have q2:=hpt false
     have hlo:=g.rf.PO_lo p.lv
     have hl:lvN p.op=e.lv:=lv_pop E.look
     have hle:e.lv≤e.a:=by
      obtain⟨_,_,_,_,r,_⟩:=pop_ok E.look
      exact r
     have h6:=E.l6
     refine⟨⟨by omega,by omega,fun q=>?_⟩,.inr ⟨by omega,fun q=>⟨by have:=u2 q;omega,nq_bare (pop_bare E.look).1⟩,?_,?_⟩⟩
     ·have q':knd p.op≠3:=q
      have r1:=E.nf q'
      have r2:knd x.op≠3:=by rw[hk,E.k8 (by omega)];decide
      have:=g.rf.PO_nf r2 p.lv
      omega
     ·show lev≤lvN p.op∨badK lev p.op
      rw[hl]
      by_cases k3:knd p.op=3
      ·have:=E.f7 k3
       by_cases r:8≤lev
       ·exact .inr (.inl ⟨r,k3⟩)
       ·exact .inl (by omega)
      ·have:=E.nf k3
       by_cases r:e.lv=12
       ·by_cases w:lev=13
        ·exact .inr (.inr ⟨by omega,E.l12 r⟩)
        ·exact .inl (by omega)
       ·exact .inl (by omega)
     ·intro b2 hb2 hk2 h7 hn
      show b2.na≤lvN p.op
      rw[hl]
      rcases g.dn b2 hb2 hk2 with r |r
      ·by_cases w:b2.lv=7
       ·have r1:=E.nf (hn (by omega))
        have:=(lv_ok hb2).2.2.2.1 w
        omega
       ·exact E.row _ b2 hb2 r w
      ·have r1:=E.nf (hn (by omega))
       have:=(lv_ok hb2).2.2.2.1 r
       omega
    ·exact key h
   ·exact key h
end
theorem joined_inv{t:Tok}{b:Bin}{x y:Nd}{a:Nat}{n:Nd}{a':Nat}(h:joinedP t b x y a= .ok n a'):
    a'=a∧binOp b (knd x.op)≠0∧∃ks,ks=(if t.t=[60,61] then[y,x] else[x,y])∧fitsB (binOp b (knd x.op)) ks=true∧
     n=if t.t=[33,61]∨t.t=[60,61] then kidsN 40 [] [kidsN (binOp b (knd x.op)) [] ks t.p] t.p else kidsN (binOp b (knd x.op)) [] ks t.p:=by
 unfold joinedP at h
 split at h
 ·cases h
 ·rename_i h0
  obtain⟨m,b2,h1,h2⟩:=bind_inv h
  cases h2
  obtain⟨rfl,rfl,hf⟩:=node_inv h1
  exact⟨rfl,h0,_,rfl,hf,rfl⟩
theorem left_bd{c:Rd}{lev i j:Nat}{cmp:Bool}{x:Nd}(hs:Sx c lev i j cmp x){b:Bin}(hb:lookT binT (c.tok j).t=some b)(hk:(c.tok j).k≠0)(h7:b.lv=7→cmp=false){op:Int}{e:BE}(E:BOk b op e)(hx:knd x.op=e.kd):
    lp c j+PO x e.a false≤lp c i:=by
 rcases hs.an with q |⟨q1,q2,q3,q4⟩
 ·have:=hs.rf.PO_le e.a false;omega
 ·have ha:e.a≤lvN x.op:=by
   rw[E.na]
   refine q4 b hb hk h7 fun r s=>?_
   have:=E.k3 (by rw[←hx];exact s)
   have:=E.lv
   omega
  by_cases k3:knd x.op=3
  ·have r1:=E.k3 (by rw[←hx];exact k3)
   have r2:=E.lv
   obtain⟨w1,w2⟩:=q2 ⟨b,hb,hk,by omega⟩
   rw[PO_in ha (.inr w2)]
   exact w1
  ·rw[PO_in ha (.inr (nq_of k3)),hs.rf.nf k3]
   exact q1
theorem step_pg{c:Rd}{lev i j:Nat}{cmp:Bool}{x:Nd}(l7:lev≠7)(hs:Sx c lev i j cmp x){b:Bin}(hb:lookT binT (c.tok j).t=some b)(hk:(c.tok j).k≠0)(h7:b.lv=7→cmp=false)(hl:lev≤b.lv)
    {y:Nd} {j1:Nat} (hy:Pg c b.nx (j+1) j1 y) {n:Nd} {j2:Nat} (h:joinedP (c.tok j) b x y j1= .ok n j2):j2=j1∧Sx c lev i j1 (b.lv==7) n:=by
 obtain⟨rfl,h0,ks,hks,hf,hn⟩:=joined_inv h
 refine⟨rfl,?_⟩
 obtain⟨e,E⟩:=bOk hb h0
 generalize binOp b (knd x.op)=op at *
 have s1:=lp_step c j
 have hlo:=lv_bop E.look
 have elv:=E.lv
 obtain⟨v1,v2,v3,v4,v5,v6,v7,_⟩:=lv_ok hb
 have bare:=nq_bare (bop_bare E.look).1
 have inner:∀(m:Nd),m.op=op→m.ks=ks→Rf m∧lp c j2+PT m true≤lp c i∧(Qn c j2→lp c j2+PT m false≤lp c i):=by
  intro m hm hmk
  by_cases hle:(c.tok j).t=[60,61]
  ·rw[if_pos hle] at hks
   rw[hle] at hb
   obtain⟨r1,r2⟩:=fits_two E.look (by rw[←hks];exact hf)
   have hpt:=fun f=>pt_bin (n:=m) (x:=y) (y:=x) (e:=e) (by rw[hm];exact E.look) (by rw[hmk,hks]) E.pc0 f
   have hb7:b=⟨7,false,0,39⟩:=(Option.some.inj hb).symm
   have ea:e.a=8:=by rw[E.na,hb7];rfl
   have eb:e.b=8:=by rw[E.nx,hb7];rfl
   have nx:b.nx=8:=by rw[hb7];rfl
   have k3:e.kd≠3:=fun q=>by have:=E.k3 q;rw[hb7] at elv;simp only at elv;omega
   rw[ea,eb] at hpt
   have lx:=left_bd hs (by rw[hle];exact hb) hk h7 E r2
   rw[ea] at lx
   have ux:=hs.rf.PO_nf (by rw[r2];exact k3) 8
   have uy:=hy.rf.PO_nf (by rw[r1];exact k3) 8
   have ty:=use_t hy.rf hy.an (fun q=>by rcases q with⟨_,q⟩ |⟨q,_⟩;exact k3 (by rw[←r1];exact q);omega)
   rw[nx] at ty
   have q1:=hpt true
   have q2:=hpt false
   exact⟨.same (by omega),by omega,fun _=>by omega⟩
  ·rw[if_neg hle] at hks
   obtain⟨r1,r2⟩:=fits_two E.look (by rw[←hks];exact hf)
   have hpt:=fun f=>pt_bin (n:=m) (x:=x) (y:=y) (e:=e) (by rw[hm];exact E.look) (by rw[hmk,hks]) E.pc0 f
   have lx:=left_bd hs hb hk h7 E r1
   have hbad:¬badK b.nx y.op:=by
    rintro (⟨q,r⟩ |⟨q,r⟩)
    ·rw[r2] at r
     have w1:=E.k3 r
     have w2:=E.nx
     have :b.nx≤b.lv+1:=by unfold Bin.nx;split<;>omega
     omega
    ·rw[r2,E.k13 (by rw[E.nx];exact q)] at r;cases r
   have ty:=use_t hy.rf hy.an hbad
   have fy:=use_f hy.rf hy.an hbad
   rw[←E.nx] at ty fy
   have hlo:=hy.rf.PO_lo e.b
   have q1:=hpt true
   have q2:=hpt false
   refine⟨⟨by omega,by omega,fun q=>?_⟩,by omega,fun q=>by have:=fy q;omega⟩
   rw[hm] at q
   have w1:=E.o8 q
   have k3:e.kd≠3:=fun q=>by have:=E.k3 q;omega
   have:=hy.rf.PO_nf (by rw[r2];exact k3) e.b
   omega
 by_cases hne:(c.tok j).t=[33,61]∨(c.tok j).t=[60,61]
 ·rw[if_pos hne] at hn
  have hb7:b.lv=7:=by
   rcases hne with q |q<;>rw[q] at hb
   ·rw[←Option.some.inj hb]
   ·rw[←Option.some.inj hb]
  obtain⟨m,hm⟩:∃m,m=kidsN op [] ks (c.tok j).p:=⟨_,rfl⟩
  obtain⟨i1,i2,i3⟩:=inner m (by rw[hm];rfl) (by rw[hm];rfl)
  rw[←hm] at hn
  have hmo:m.op=op:=by rw[hm];rfl
  have hpt:∀f,PT n f=PT m f:=fun f=>by
   rw[pt_not (n:=n) (x:=m) (by rw[hn];rfl) (by rw[hn];rfl)]
   exact PO_in (by rw[hmo,hlo];omega) (.inr (by rw[hmo];exact bare))
  have hno:n.op=40:=by rw[hn];rfl
  have q1:=hpt true
  have q2:=hpt false
  have w1:=i1.lo
  have w2:=i1.hi
  refine⟨⟨by omega,by omega,fun q=>absurd (by rw[hno];rfl) q⟩,.inr ⟨by omega,fun q=>⟨by have:=i3 q;omega,by rw[hno];decide,by rw[hno];decide⟩,.inl ?_,?_⟩⟩
  ·rw[hno];show lev≤6;omega
  ·intro b2 hb2 hk2 c7 hn2
   rw[hno]
   show b2.na≤6
   have c8:b2.lv≠7:=fun q=>by have:=c7 q;rw[hb7] at this;cases this
   rcases hy.dn b2 hb2 hk2 with r |r
   ·exact(row_ok hb hb2 r c8).2 hb7
   ·exact absurd r c8
 ·rw[if_neg hne] at hn
  obtain⟨i1,i2,i3⟩:=inner n (by rw[hn];rfl) (by rw[hn];rfl)
  have hno:n.op=op:=by rw[hn];rfl
  refine⟨i1,.inr ⟨i2,fun q=>⟨i3 q,by rw[hno];exact bare⟩,.inl (by rw[hno,hlo];omega),?_⟩⟩
  intro b2 hb2 hk2 c7 hn2
  rw[hno] at hn2⊢
  rw[hlo,elv]
  by_cases r7:b2.lv=7
  ·have w1:=E.o8 (hn2 (by omega))
   have:=(lv_ok hb2).2.2.2.1 r7
   omega
  ·rcases hy.dn b2 hb2 hk2 with r |r
   ·exact(row_ok hb hb2 r r7).1
   ·exact absurd r r7
theorem ops_pg{c:Rd}{prs:Nat→Nat→PR Nd}(hD:Deep c prs)(hS:SzP prs){lev i:Nat}(l1:1≤lev)(l7:lev≠7):∀(m:Nat) (cmp:Bool) (x:Nd) (j:Nat) (n:Nd) (j':Nat),Sx c lev i j cmp x→c.ts.length+1≤m+j→opsP c prs lev m cmp x j= .ok n j'→Pg c lev i j' n
 | 0,cmp,x,j,n,j',hs,hm,h=>by
  cases h
  refine⟨hs.rf,hs.a,fun b _ hk=>absurd ?_ hk⟩
  rw[tok_out (by omega)]
 |m+1,cmp,x,j,n,j',hs,hm,h=>by
  unfold opsP at h
  dsimp only at h
  split at h
  ·rename_i hb
   cases h
   exact⟨hs.rf,hs.a,fun b q=>by rw[hb] at q;cases q⟩
  ·rename_i b hb
   split at h
   ·rename_i hst
    cases h
    refine⟨hs.rf,hs.a,fun b' q hk=>?_⟩
    rw[hb] at q
    cases q
    rcases hst with r |r |⟨r,_⟩
    ·exact absurd r hk
    ·exact .inl r
    ·exact .inr r
   ·rename_i hst
    obtain⟨y,j1,h1,h3⟩:=bind_inv h
    obtain⟨z,j2,h2,h4⟩:=bind_inv h3
    have h1':prs b.nx (j+1)= .ok y j1:=h1
    obtain⟨v1,v2,v3,v4,v5,v6,v7,_⟩:=lv_ok hb
    have g1:=hD _ _ _ _ v7 v6 v5 h1'
    have hk:(c.tok j).k≠0:=fun q=>hst (.inl q)
    have hl:lev≤b.lv:=by
     rcases Nat.lt_or_ge b.lv lev with q |q
     ·exact absurd (.inr (.inl q)) hst
     ·exact q
    have h7:b.lv=7→cmp=false:=fun q=>by
     cases cmp with
     |false=>rfl
     |true=>exact absurd (.inr (.inr ⟨q,rfl⟩)) hst
    obtain⟨rfl,g2⟩:=step_pg l7 hs hb hk h7 hl g1 h2
    have:=hS _ _ _ _ h1'
    have hy1:1≤y.size:=by have:=size_eq y;omega
    exact ops_pg hD hS l1 l7 m _ _ _ _ _ g2 (by omega) h4
theorem parse_pg{c:Rd}(hN:Nm0 c):∀d,Deep c (parseP c d)
 | 0=>fun lev a y a' _ _ _ h=>absurd h wrongP_bad
 |d+1=>fun lev a y a' l1 l13 l7 h=>by
  unfold parseP at h
  split at h
  ·cases h
  ·obtain⟨x,b,h1,h2⟩:=bind_inv h
   exact ops_pg (parse_pg hN d) (parseP_sz c d) l1 l7 _ _ _ _ _ _ (operand_pg hN (parse_pg hN d) l13 l7 h1) (by omega) h2
theorem formula_pg{c:Rd}(hN:Nm0 c){n:Nd}{a:Nat}(h:formulaP c= .ok n a):PT n true≤lp c 0:=by
 unfold formulaP at h
 obtain⟨x,b,h1,h2⟩:=bind_inv h
 unfold wholeP at h1
 obtain⟨y,b',h3,h4⟩:=bind_inv h1
 have g:=parse_pg hN 101 1 0 y b' (by omega) (by omega) (by omega) h3
 have hx:x=y:=by
  split at h4
  ·cases h4
  ·split at h4
   ·cases h4
   ·cases h4;rfl
 have hn:n=x:=by
  split at h2
  ·exact absurd h2 wrongP_bad
  ·cases h2;rfl
 rw[hn,hx]
 have:=an_true g.an
 omega
end Go.Proofs.YtalgjkpkkdljaaaGreatDoor
namespace Go.Proofs.YtalgjkpkkdljaaaGreatDoor
open Go.Vs
theorem pc_sk:∀(b:Bool) (r:List UInt8),pc (Lx.sk b r)≤pc r
 |b,[]=>by cases b<;>exact Nat.le_refl _
 |false,c::t=>by
  have h1:=pc_sk false t
  have h2:=pc_sk true t
  have h3:=pc_cons c t
  simp only[Lx.sk]
  split
  ·omega
  ·split
   ·omega
   ·exact Nat.le_refl _
 |true,c::t=>by
  have h1:=pc_sk false t
  have h2:=pc_sk true t
  have h3:=pc_cons c t
  simp only[Lx.sk]
  split<;>omega
theorem first_pre(r:List UInt8):∀l:List (List UInt8),∃u,r=Lx.firstOf r l++u
 |[]=>⟨r,rfl⟩
 |x::l=>by
  simp only[Lx.firstOf]
  split
  ·rename_i h
   obtain⟨u,hu⟩:=List.isPrefixOf_iff_prefix.1 h
   exact⟨u,hu.symm⟩
  ·exact first_pre r l
theorem tok_pre(r:List UInt8):∃u,r=(Lx.tokS r).2.1++u:=by
 cases r with
 |nil=>exact⟨[],rfl⟩
 |cons c t=>
  unfold Lx.tokS
  dsimp only
  split
  ·obtain⟨u,hu⟩:=List.takeWhile_prefix (l:=c::t) Lx.wrB
   exact⟨u,hu.symm⟩
  ·split
   ·obtain⟨u,hu⟩:=List.takeWhile_prefix (l:=c::t) Lx.diB
    exact⟨u,hu.symm⟩
   ·exact first_pre _ _
theorem lexR_pc:∀(n:Nat) (r:List UInt8),(Lx.lexR n r).1.countP (fun t=>t.t==[40])≤pc r
 | 0,r=>by simp[Lx.lexR]
 |n+1,r=>by
  have hs:=pc_sk false r
  simp only[Lx.lexR]
  split
  ·simp
  ·rename_i c t hsk
   rw[hsk] at hs
   split
   ·obtain⟨u,hu⟩:=tok_pre (c::t)
    have hd:(c::t).drop (Lx.tokS (c::t)).2.1.length=u:=by
     have:=congrArg (List.drop (Lx.tokS (c::t)).2.1.length) hu
     rwa [List.drop_left] at this
    have ih:=lexR_pc n u
    have hp:pc (c::t)=pc (Lx.tokS (c::t)).2.1+pc u:=by
     conv=>lhs;rw[hu]
     exact pc_app _ _
    rw[hd]
    dsimp only
    rw[List.countP_cons]
    have :(if((Lx.tokS (c::t)).2.1==[40])=true then 1 else 0)≤pc (Lx.tokS (c::t)).2.1:=by
     split
     ·rename_i q
      rw[eq_of_beq q]
      exact Nat.le_refl _
     ·exact Nat.zero_le _
    dsimp only at this⊢
    omega
   ·exact Nat.zero_le _
theorem lex_pc{s:List UInt8}(hs:s.length≤20000):(Lx.lex s).1.countP isLp≤pc s:=by
 rw[Lx.lex_lexR hs]
 have h:=lexR_pc (s.length+1) s
 unfold Lx.asLexed
 split
 ·show(([]:List Tok)++_).countP isLp≤_
  rw[List.nil_append,List.countP_map]
  exact h
 ·exact Nat.zero_le _
theorem pc_wr:∀{l:List UInt8},(∀b∈l,Lx.wrB b=true)→pc l=0
 |[],_=>rfl
 |b::l,h=>by
  rw[pc_cons,pc_wr (fun x hx=>h x (List.mem_cons_of_mem _ hx)),if_neg]
  intro q
  have:=h b List.mem_cons_self
  rw[q] at this
  cases this
theorem nm0_rdF(s:List UInt8)(f:List PD):Nm0 (rdF s f):=by
 intro i h
 have hts:=rdF_ts s f
 have hk:((rdF s f).tok i).k=1:=by
  unfold namedB at h
  rw[Bool.and_eq_true] at h
  exact eq_of_beq h.1
 have hi:i<(rdF s f).ts.length:=by
  rcases Nat.lt_or_ge i (rdF s f).ts.length with q |q
  ·exact q
  ·rw[tok_out q] at hk;cases hk
 rw[tok_in hi] at hk⊢
 have hm:(rdF s f).ts[i]∈(Lx.lex s).1:=by rw[←hts];exact List.getElem_mem hi
 obtain⟨j,hj,e1,e2⟩:=Lx.lex_mem hm
 rw[e1] at hk⊢
 have ht:=Lx.tokAt_tokS hj
 have hk':(Lx.tokS (s.drop j)).1=1:=by rw[←ht];exact hk
 have ht':(Lx.tokAt s j).1.t=(Lx.tokS (s.drop j)).2.1:=by rw[←ht]
 rw[ht']
 revert hk'
 cases s.drop j with
 |nil=>intro q;cases q
 |cons c t=>
  unfold Lx.tokS
  dsimp only
  split
  ·intro _
   exact pc_wr fun b hb=>Lx.tw_mem hb
  ·split
   ·intro q;cases q
   ·intro q;cases q
theorem pf_pc{s:List UInt8}{n:Nd}(h:pf s=(n,.nils)):pc (Pj.txt n true)≤pc s:=by
 unfold pf at h
 split at h
 ·cases h
 ·rename_i he
  have he':(Lx.lex s).2.1=0:=by
   cases q:decide ((Lx.lex s).2.1=0) with
   |true=>exact of_decide_eq_true q
   |false=>exact absurd (of_decide_eq_false q) he
  have hl:=lex_small he'
  split at h
  ·rename_i m a hm
   cases h
   have h1:pc (Pj.txt n true)≤_:=formula_pg (nm0_rdF s []) hm
   have h2:lp (rdF s []) 0=(Lx.lex s).1.countP isLp:=by
    unfold lp
    rw[List.drop_zero,rdF_ts]
   have h3:=lex_pc hl
   omega
  ·cases h
theorem er_of_eqN:∀(s:Nat) (m n:Nd),m.size≤s→eqN m n=true→m.er=n.er:=by
 intro s
 induction s with
 |zero=>intro m n h;have:=size_eq m;omega
 |succ s ih=>
  intro m n hs he
  have hsz:=size_eq m
  have hL:∀(x y:List Nd),Nd.sizeL x≤s→eqNL x y=true→x.map Nd.er=y.map Nd.er:=by
   intro x
   induction x with
   |nil=>
    intro y _ h
    cases y with
    |nil=>rfl
    |cons=>cases h
   |cons a x ihx=>
    intro y hb h
    cases y with
    |nil=>cases h
    |cons b y=>
     simp only[Nd.sizeL] at hb
     simp only[eqNL,Bool.and_eq_true] at h
     rw[List.map_cons,List.map_cons,ih a b (by omega) h.1,ihx y (by omega) h.2]
  rw[eqN_eq,←eqNL_all] at he
  simp only[Bool.and_eq_true,beq_iff_eq] at he
  exact er_iff.2 ⟨he.1.1.1,he.1.1.2,he.1.2,hL m.ks n.ks (by omega) he.2⟩
theorem kt_er:∀(s:Nat) (m n:Nd),m.size≤s→m.er=n.er→m.kt=n.kt:=by
 intro s
 induction s with
 |zero=>intro m n h;have:=size_eq m;omega
 |succ s ih=>
  intro m n hs he
  obtain⟨h1,h2,h3,h4⟩:=er_iff.1 he
  have hsz:=size_eq m
  have hL:∀(x y:List Nd),Nd.sizeL x≤s→x.map Nd.er=y.map Nd.er→x.map Nd.kt=y.map Nd.kt:=by
   intro x
   induction x with
   |nil=>
    intro y _ h
    cases y with
    |nil=>rfl
    |cons=>cases h
   |cons a x ihx=>
    intro y hb h
    cases y with
    |nil=>cases h
    |cons b y=>
     simp only[Nd.sizeL] at hb
     rw[List.map_cons,List.map_cons,List.cons.injEq] at h
     rw[List.map_cons,List.map_cons,ih a b (by omega) h.1,ihx y (by omega) h.2]
  have h5:=hL m.ks n.ks (by omega) h4
  unfold Nd.kt
  rw[Pj.txt_eq m,Pj.txt_eq n,h1,h2,h3,h5]
theorem txt_er{m n:Nd}(h:m.er=n.er):Pj.txt m=Pj.txt n:=congrArg Prod.snd (kt_er _ m n (Nat.le_refl _) h)
def bl:List UInt8→Int
 |[]=>0
 |b::s=>(if b=40 then 1 else if b=41 then -1 else 0)+bl s
theorem bl_app:∀s t:List UInt8,bl (s++t)=bl s+bl t
 |[],t=>by simp[bl]
 |b::s,t=>by simp only[List.cons_append,bl,bl_app s t];omega
structure Bl (s:List UInt8):Prop where
 z:bl s=0
 d:∀i,bl (s.drop i)≤0
theorem Bl.app{s t:List UInt8}(h:Bl s)(k:Bl t):Bl (s++t):=by
 refine⟨by rw[bl_app,h.z,k.z];rfl,fun i=>?_⟩
 rw[List.drop_append,bl_app]
 have:=h.d i
 have:=k.d (i-s.length)
 omega
theorem Bl.pa{s:List UInt8}(h:Bl s):Bl (40::(s++[41])):=by
 refine⟨by simp only[bl,bl_app,h.z];rfl,fun i=>?_⟩
 cases i with
 |zero=>simp only[List.drop_zero,bl,bl_app,h.z];decide
 |succ i=>
  rw[List.drop_succ_cons,List.drop_append,bl_app]
  have:=h.d i
  have :bl ([41].drop (i-s.length))≤0:=by
   cases i-s.length with
   |zero=>decide
   |succ k=>simp[bl]
  omega
def noP(s:List UInt8):Bool:=s.all fun b=>b !=40&&b !=41
theorem bl_no:∀{s:List UInt8},noP s=true→bl s=0
 |[],_=>rfl
 |b::s,h=>by
  unfold noP at h
  simp only[List.all_cons,Bool.and_eq_true,bne_iff_ne] at h
  simp only[bl]
  rw[if_neg h.1.1,if_neg h.1.2,bl_no h.2]
  rfl
theorem Bl.no{s:List UInt8}(h:noP s=true):Bl s:=by
 refine⟨bl_no h,fun i=>?_⟩
 have :noP (s.drop i)=true:=by
  unfold noP at h⊢
  rw[List.all_eq_true] at h⊢
  exact fun x hx=>h x (List.mem_of_mem_drop hx)
 rw[bl_no this]
 exact Int.le_refl _
theorem noP_nm{s:List UInt8}(h:isNm s=true):noP s=true:=by
 unfold isNm at h
 simp only[Bool.and_eq_true,Bool.not_eq_true',beq_eq_false_iff_ne] at h
 obtain⟨h1,_,_,h4⟩:=h
 unfold noP
 rw[List.all_eq_true]
 have key:∀b,Lx.wrB b=true→(b !=40&&b !=41)=true:=by
  intro b hb
  rw[Bool.and_eq_true,bne_iff_ne,bne_iff_ne]
  constructor<;>intro q<;>rw[q] at hb<;>cases hb
 cases s with
 |nil=>exact fun b hb=>by cases hb
 |cons c t=>
  simp only[chs,Bool.and_eq_true] at h4
  intro b hb
  refine key b ?_
  rcases List.mem_cons.1 hb with q |q
  ·rw[q]
   unfold Lx.wrB
   rw[←letter_le,h4.1];rfl
  ·exact chs_tail 0 t h4.2 b q
theorem noP_itoa:∀n:Int,-64≤n→n≤64→noP (Lib.itoa n)=true:=by
 intro n h1 h2
 have :∀k:Fin 129,noP (Lib.itoa ((k.val:Int)-64))=true:=by decide+kernel
 obtain⟨m,hm⟩:=Int.eq_ofNat_of_zero_le (show 0≤n+64 by omega)
 have:=this ⟨m,by omega⟩
 rw[show((⟨m,by omega⟩:Fin 129).val:Int)-64=n by show(m:Int)-64=n;omega] at this
 exact this
theorem opr_bl{x:Nd}{need:Int}{fin:Bool}(h:∀f,Bl (Pj.txt x f)):Bl (Pj.oprK x.kt need fin):=by
 unfold Pj.oprK
 split
 ·exact h fin
 ·exact(h true).pa
theorem bnd_bl{a x y:Nd}(hks:a.ks=[x,y])(hx:∀f,Bl (Pj.txt x f))(hy:∀f,Bl (Pj.txt y f))(hn:isNm a.nm=true):Bl (Pj.bndT a.nm (a.ks.map Nd.kt)):=by
 have hk:Pj.bndT a.nm (a.ks.map Nd.kt)=a.nm++([58,32]++(Pj.oprK x.kt 8 true++([32,124,32]++Pj.txt y true))):=by rw[hks];rfl
 rw[hk]
 exact(Bl.no (noP_nm hn)).app ((Bl.no rfl).app ((opr_bl hx).app ((Bl.no rfl).app (hy true))))
theorem join_bl:∀(ks:List Nd),(∀x∈ks,∀f,Bl (Pj.txt x f))→Bl (Pj.joinL [44,32] (ks.map fun x=>Pj.oprK x.kt 8 true))
 |[],_=>.no rfl
 |[x],h=>opr_bl (h x (by simp))
 |x::y::r,h=>by
  have h2:=join_bl (y::r) (fun z hz=>h z (List.mem_cons_of_mem _ hz))
  simp only[List.map_cons,Pj.joinL] at h2⊢
  exact(opr_bl (h x (by simp))).app ((Bl.no rfl).app h2)
theorem txt_bl:∀(h:Nat) (a:Nd),wf h a→∀fin,Bl (Pj.txt a fin)
 | 0,a,hw=>hw.elim
 |h+1,a,hw=>by
  obtain⟨ho,hf,hk⟩:=hw
  have ih:=fun x (hx:x∈a.ks)=>txt_bl h x (hk x hx)
  intro fin
  cases hb:lookO bopT a.op with
  |some e=>
   obtain⟨x,y,hks⟩:=bop_kids hb hf
   obtain⟨f,b1,b2,b3,b4,b5⟩:=bin_of hb
   have hl:noP f.s=true:=by
    have :Pj.binT.all (fun f=>noP f.s)=true:=by decide+kernel
    exact List.all_eq_true.1 this _ (look_mem b1).1
   have ht:Pj.txt a fin=Pj.oprK x.kt e.a false++(f.s++Pj.oprK y.kt e.b fin):=by
    rw[Pj.txt_eq,hks];simp only[Pj.txtOf,b1,b2,b3];rfl
   rw[ht]
   exact(opr_bl (ih x (by simp[hks]))).app ((Bl.no hl).app (opr_bl (ih y (by simp[hks]))))
  |none=>
   have nb:=no_bin hb
   cases hp:lookO popT a.op with
   |some e=>
    obtain⟨x,hks⟩:=pop_kids hp hf
    obtain⟨_,f,b1,b2,b3,b5⟩:=pre_of hp
    have hl:noP f.s=true:=by
     have :Pj.preT.all (fun f=>noP f.s)=true:=by decide+kernel
     exact List.all_eq_true.1 this _ (look_mem b1).1
    have ht:Pj.txt a fin=f.s++Pj.oprK x.kt e.a fin:=by
     rw[Pj.txt_eq,hks];simp only[Pj.txtOf,nb,b1,b2];rfl
    rw[ht]
    exact(Bl.no hl).app (opr_bl (ih x (by simp[hks])))
   |none=>
    have np:=no_pre hp
    have te:Pj.txt a fin=Pj.txtOf a.op a.nm a.n (a.ks.map Nd.kt) fin:=by rw[Pj.txt_eq]
    simp only[Pj.txtOf,nb,np] at te
    rcases op_cases hf hb hp with⟨q,hks⟩ |⟨q,x,hks⟩ |⟨q,x,y,hks⟩ |q
    ·rcases q with q |q |q |q
     ·have t2:Pj.txt a fin=a.nm:=by rw[te,q];rfl
      rw[t2]
      exact .no (noP_nm (nmd_own (op:=a.op) ho (by rw[q];rfl)).1)
     ·have h1:=none_own ho q
      rw[te,q]
      by_cases h0:a.n=1
      ·simp only[h0];exact .no rfl
      ·have t2:([110,111,110,101]++if a.n=1 then[] else[91]++(Lib.itoa a.n++[93]):List UInt8)=[110,111,110,101]++([91]++(Lib.itoa a.n++[93])):=by rw[if_neg h0]
       show Bl ([110,111,110,101]++if a.n=1 then[] else[91]++(Lib.itoa a.n++[93]))
       rw[t2]
       exact(Bl.no rfl).app ((Bl.no rfl).app ((Bl.no (noP_itoa _ (by omega) (by omega))).app (.no rfl)))
     ·have h1:=lit_own ho q
      have t2:Pj.txt a fin=Lib.itoa a.n:=by rw[te,q];rfl
      rw[t2]
      exact .no (noP_itoa _ (by omega) (by omega))
     ·rcases q with q |q |q |q<;>rw[te,q]<;>exact .no rfl
    ·have ht:Pj.txt a fin=Pj.oprK x.kt 14 false++[39]:=by rw[te,q,hks];rfl
     rw[ht]
     exact(opr_bl (ih x (by simp[hks]))).app (.no rfl)
    ·have hnm:=(nmd_own (op:=a.op) ho (by rcases q with q |q |q<;>rw[q]<;>rfl)).1
     have hbl:=bnd_bl hks (ih x (by simp[hks])) (ih y (by simp[hks])) hnm
     rcases q with q |q |q
     ·have ht:Pj.txt a fin=[123]++(Pj.bndT a.nm (a.ks.map Nd.kt)++[125]):=by rw[te,q];rfl
      rw[ht];exact(Bl.no rfl).app (hbl.app (.no rfl))
     ·have ht:Pj.txt a fin=[97,108,108,32]++Pj.bndT a.nm (a.ks.map Nd.kt):=by rw[te,q];rfl
      rw[ht];exact(Bl.no rfl).app hbl
     ·have ht:Pj.txt a fin=[115,111,109,101,32]++Pj.bndT a.nm (a.ks.map Nd.kt):=by rw[te,q];rfl
      rw[ht];exact(Bl.no rfl).app hbl
    ·have hnm:=(nmd_own (op:=a.op) ho (by rw[q];rfl)).1
     have hj:=join_bl a.ks ih
     have ht:Pj.txt a fin=a.nm++([91]++(Pj.joinL [44,32] (a.ks.map fun x=>Pj.oprK x.kt 8 true)++[93])):=by
      rw[te,q]
      have :((a.ks.map Nd.kt).map fun k=>Pj.oprK k 8 true)=a.ks.map fun x=>Pj.oprK x.kt 8 true:=by simp[Function.comp_def]
      simp only[this]
      rfl
     rw[ht]
     exact(Bl.no (noP_nm hnm)).app ((Bl.no rfl).app (hj.app (.no rfl)))
def stp(o:Int)(b:UInt8):Int:=(if b=40 then o+1 else o)-(if b=41 then 1 else 0)
def cl:Int→List UInt8→Option Nat
 |_,[]=>none
 |o,b::r=>if stp o b=0 then some 0 else(cl (stp o b) r).map (· +1)
theorem stp_bl(o:Int)(b:UInt8)(s:List UInt8):stp o b+bl s=o+bl (b::s):=by
 simp only[stp,bl]
 by_cases h:b=40
 ·subst h;simp;omega
 ·by_cases h':b=41
  ·subst h';simp;omega
  ·simp[h,h']
theorem cl_some:∀(r:List UInt8) (o:Int),0<o→o+bl r≤0→∃k,cl o r=some k
 |[],o,h,h'=>by simp only[bl] at h';omega
 |b::r,o,h,h'=>by
  have hs:=stp_bl o b r
  simp only[cl]
  split
  ·exact⟨0,rfl⟩
  ·rename_i h0
   have :0<stp o b:=by
    unfold stp at h0⊢
    split at h0<;>split at h0<;>split<;>omega
   obtain⟨k,hk⟩:=cl_some r (stp o b) this (by omega)
   exact⟨k+1,by rw[hk];rfl⟩
theorem cl_at:∀(r:List UInt8) (o:Int) (k:Nat),0≤o→cl o r=some k→k<r.length∧(0<o→r[k]? =some 41)
 |b::r,o,k,h0,h=>by
  simp only[cl] at h
  split at h
  ·rename_i hz
   cases h
   refine⟨by simp,fun ho=>?_⟩
   have :b=41:=by
    unfold stp at hz
    by_cases q:b=41
    ·exact q
    ·rw[if_neg q] at hz
     split at hz<;>omega
   rw[this];rfl
  ·rename_i hz
   cases hc:cl (stp o b) r with
   |none=>rw[hc] at h;cases h
   |some m=>
    rw[hc] at h
    cases h
    by_cases ho:0<o
    ·have hp:0<stp o b:=by
      unfold stp at hz⊢
      split at hz<;>split at hz<;>split<;>omega
     have ih:=cl_at r (stp o b) m (by omega) hc
     exact⟨by simp only[List.length_cons];omega,fun _=>by simpa using ih.2 hp⟩
    ·by_cases hn:0≤stp o b
     ·have ih:=cl_at r (stp o b) m hn hc
      exact⟨by simp only[List.length_cons];omega,fun q=>absurd q ho⟩
     ·refine⟨?_,fun q=>absurd q ho⟩
      have :∀(r:List UInt8) (o:Int) (k:Nat),cl o r=some k→k<r.length:=by
       intro r
       induction r with
       |nil=>intro o k h;cases h
       |cons b r ih=>
        intro o k h
        simp only[cl] at h
        split at h
        ·cases h;simp
        ·cases hc:cl (stp o b) r with
         |none=>rw[hc] at h;cases h
         |some m=>
          rw[hc] at h;cases h
          have:=ih _ _ hc
          simp only[List.length_cons];omega
      have:=this r _ _ hc
      simp only[List.length_cons];omega
theorem closes{s:List UInt8}(h:Bl s){i:Nat}(hi:s[i]? =some 40):∃k,cl 0 (s.drop i)=some k∧1≤k∧i+k<s.length∧s[i+k]? =some 41:=by
 have hl:i<s.length:=(List.getElem?_eq_some_iff.1 hi).1
 have hg:s[i]=40:=(List.getElem?_eq_some_iff.1 hi).2
 have hd:s.drop i=40::s.drop (i+1):=by rw[List.drop_eq_getElem_cons hl,hg]
 have hb:=h.d i
 rw[hd] at hb
 have hs:stp 0 40=1:=by decide
 have hc:cl 0 (40::s.drop (i+1))=(cl 1 (s.drop (i+1))).map (· +1):=by
  simp only[cl,hs]
  rw[if_neg (by decide)]
 obtain⟨m,hm⟩:=cl_some (s.drop (i+1)) 1 (by decide) (by simpa[bl] using hb)
 obtain⟨q1,q2⟩:=cl_at _ 1 m (by decide) hm
 refine⟨m+1,by rw[hd,hc,hm];rfl,by omega,?_,?_⟩
 ·rw[List.length_drop] at q1;omega
 ·have:=q2 (by decide)
  rw[List.getElem?_drop] at this
  rw[←this]
  congr 1
  omega
theorem pc_cut{s:List UInt8}{i k:Nat}(hi:s[i]? =some 40)(hk:i<k)(hl:k<s.length):pc (s.take i++((s.take k).drop (i+1)++s.drop (k+1)))+1≤pc s:=by
 have hli:i<s.length:=by omega
 have hg:s[i]=40:=(List.getElem?_eq_some_iff.1 hi).2
 have e1:pc s=pc (s.take k)+pc (s.drop k):=by rw[←pc_app,List.take_append_drop]
 have e2:pc (s.take k)=pc ((s.take k).take i)+pc ((s.take k).drop i):=by rw[←pc_app,List.take_append_drop]
 have e3:(s.take k).take i=s.take i:=by rw[List.take_take];congr 1;omega
 have hlt:i<(s.take k).length:=by rw[List.length_take];omega
 have e4:(s.take k).drop i=40::(s.take k).drop (i+1):=by
  rw[List.drop_eq_getElem_cons hlt,List.getElem_take,hg]
 have e5:s.drop k=s[k]::s.drop (k+1):=List.drop_eq_getElem_cons hl
 rw[e3,e4] at e2
 rw[e5] at e1
 rw[pc_cons] at e1 e2
 rw[pc_app,pc_app]
 simp only[if_true] at e2
 omega
def cgS(s:List UInt8)(o:Int)(k:Nat):St:=⟨[(0,.p (.str s)),(5,.p (.int .i64 o)),(6,.p (.int .i64 k))],⟨[],[]⟩⟩
theorem cg_step{s:List UInt8}{k:Nat}(hs:s.length≤1000000)(hlt:k<s.length){o:Int}(ho:0≤o)(ho':o≤1000000):
    evS (call pg) pg.G iterX fc38_b0 (cgS s o k)=some (if stp o s[k]=0 then(.ret,⟨[(4,.p (.int .i64 k))],⟨[],[]⟩⟩) else(.norm,cgS s (stp o s[k]) (k+1))):=by
 have hi:s[k]? =some s[k]:=by simp[hlt]
 have hlt':(k:Int)<(s.length:Int):=by omega
 have hw:=inc64 (k:=k) (by omega)
 have ek:((k+1 :Nat):Int)=(k:Int)+1:=rfl
 have hb1:(((s[k]).toNat:Int)==40)=(s[k]==40):=Lx.all_bytes (p:=fun c=>((c.toNat:Int)==40)=(c==40)) (by decide+kernel) _
 have hb2:(((s[k]).toNat:Int)==41)=(s[k]==41):=Lx.all_bytes (p:=fun c=>((c.toNat:Int)==41)=(c==41)) (by decide+kernel) _
 have w1:IntKind.i64.wrap (o+1)=o+1:=wrap64 (by omega) (by omega)
 have w2:IntKind.i64.wrap (o-1)=o-1:=wrap64 (by omega) (by omega)
 generalize hg:s[k]=b at *
 by_cases h1:b=40
 ·subst h1
  have e1:stp o 40=o+1:=by simp[stp]
  have e2:(o+1==0)=false:=by simp;omega
  rw[e1,if_neg (by omega)]
  simp only[cgS,ek]
  rw[ek] at hw
  simp[fc38_b0,evKC,evK,put,Env.get,Env.keep,Opd.ev,indexD,D.asInt?,u8,binD,lenD,Int.toNat_natCast,List.map,hg,hlt',hw,w1,e2,hlt]
 ·have e0:(b==40)=false:=by simp[h1]
  rw[e0] at hb1
  by_cases h2:b=41
  ·subst h2
   have e1:stp o 41=o-1:=by simp[stp]
   rw[e1]
   simp only[cgS,ek]
   rw[ek] at hw
   by_cases h3:o-1=0
   ·have e2:(o-1==0)=true:=by simp;omega
    rw[if_pos h3]
    simp[fc38_b0,evKC,evK,put,Env.get,Env.keep,Opd.ev,indexD,D.asInt?,u8,binD,lenD,Int.toNat_natCast,List.map,hg,hlt',w2,e2,hlt]
   ·have e2:(o-1==0)=false:=by simp;omega
    rw[if_neg h3]
    simp[fc38_b0,evKC,evK,put,Env.get,Env.keep,Opd.ev,indexD,D.asInt?,u8,binD,lenD,Int.toNat_natCast,List.map,hg,hlt',hw,w2,e2,hlt]
  ·have e0':(b==41)=false:=by simp[h2]
   rw[e0'] at hb2
   have e1:stp o b=o:=by simp[stp,h1,h2]
   rw[e1]
   simp only[cgS,ek]
   rw[ek] at hw
   by_cases h3:o=0
   ·have e2:(o==0)=true:=by simp;omega
    rw[if_pos h3]
    simp[fc38_b0,evKC,evK,put,Env.get,Env.keep,Opd.ev,indexD,D.asInt?,u8,binD,lenD,Int.toNat_natCast,List.map,hg,hlt',hb1,hb2,e2,hlt]
   ·have e2:(o==0)=false:=by simp;omega
    rw[if_neg h3]
    simp[fc38_b0,evKC,evK,put,Env.get,Env.keep,Opd.ev,indexD,D.asInt?,u8,binD,lenD,Int.toNat_natCast,List.map,hg,hlt',hw,hb1,hb2,e2,hlt]
theorem cg_loop{s:List UInt8}(hs:s.length≤1000000):∀(m k:Nat) (o:Int) (j:Nat),s.length-k≤m→k≤s.length→0<o→o≤k→cl o (s.drop k)=some j→
    loopK (call pg) pg.G [0,5,6] fc38_b0 (cgS s o k)=some (.ret,⟨[(4,.p (.int .i64 ((k+j:Nat):Int)))],⟨[],[]⟩⟩)
 |m,k,o,j,hm,hk,ho,hok,hc=>by
  by_cases hlt:k<s.length
  ·have hs1:=cg_step (k:=k) hs hlt (o:=o) (by omega) (by omega)
   rw[List.drop_eq_getElem_cons hlt] at hc
   simp only[cl] at hc
   by_cases h0:stp o s[k]=0
   ·rw[if_pos h0] at hs1 hc
    cases hc
    exact loopK_out hs1 (by simp)
   ·rw[if_neg h0] at hs1 hc
    cases hj:cl (stp o s[k]) (s.drop (k+1)) with
    |none=>rw[hj] at hc;cases hc
    |some j'=>
     rw[hj] at hc
     cases hc
     match m with
     | 0=>omega
     |m+1=>
      have hp:0<stp o s[k]:=by
       unfold stp at h0⊢
       split at h0<;>split at h0<;>split<;>omega
      have hle:stp o s[k]≤(k+1 :Nat):=by
       unfold stp
       split<;>split<;>omega
      have ih:=cg_loop hs m (k+1) (stp o s[k]) j' (by omega) (by omega) hp hle hj
      rw[show k+(j'+1)=k+1+j' by omega,←ih]
      exact loopK_norm hs1
  ·rw[List.drop_eq_nil_of_le (by omega)] at hc
   cases hc
theorem closing_eq{s:List UInt8}(hs:s.length≤1000000){i:Nat}(hi:s[i]? =some 40){k:Nat}(hc:cl 0 (s.drop i)=some k)(H:Hp):
    callD (call pg) 38 [.p (.str s),.p (.int .i64 i)] H=some (.val (.p (.int .i64 ((i+k:Nat):Int))),H):=by
 have hl:i<s.length:=(List.getElem?_eq_some_iff.1 hi).1
 have hg:s[i]=40:=(List.getElem?_eq_some_iff.1 hi).2
 have h1:stp 0 40=1:=by decide
 have hs1:=cg_step (k:=i) hs hl (o:=0) (by omega) (by omega)
 rw[hg,h1,if_neg (by decide)] at hs1
 rw[List.drop_eq_getElem_cons hl,hg] at hc
 simp only[cl,h1] at hc
 rw[if_neg (by decide)] at hc
 cases hj:cl 1 (s.drop (i+1)) with
 |none=>rw[hj] at hc;cases hc
 |some j=>
  rw[hj] at hc
  cases hc
  have hlp:=cg_loop hs s.length (i+1) 1 j (by omega) (by omega) (by omega) (by omega) hj
  have hlp':loopK (call pg) pg.G [0,5,6] fc38_b0 (cgS s 0 i)=some (.ret,⟨[(4,.p (.int .i64 ((i+(j+1):Nat):Int)))],⟨[],[]⟩⟩):=by
   rw[show i+(j+1)=i+1+j by omega,←hlp]
   exact loopK_norm hs1
  show callD (call pg) 38 [.p (.str s),.p (.int .i64 i)] H=some (.val (.p (.int .i64 ((i+(j+1):Nat):Int))),H)
  refine callD_any (d:=.p (.int .i64 ((i+(j+1):Nat):Int))) ⟨⟨[],[]⟩,call_body (fc:=fc38) rfl rfl rfl rfl ?_⟩ rfl rfl rfl rfl H
  simp only[cgS] at hlp'
  simp[fc38,evKC,evK,put,Env.get,Env.keep,entry,Opd.ev,finish,evRes,evRes1,List.map,hlp']
theorem s_take{s:List UInt8}{i:Nat}(h:i≤s.length):sliceD 0 (.p (.str s)) none (some (.p (.int .i64 (i:Int))))=some (.p (.str (s.take i))):=by
 simp[sliceD,boundsD,D.asNat?,sub,h]
theorem s_mid{s:List UInt8}{i k:Nat}(hi:i<k)(h:k≤s.length):sliceD 0 (.p (.str s)) (some (.p (.int .i64 ((i:Int)+1)))) (some (.p (.int .i64 (k:Int))))=some (.p (.str ((s.take k).drop (i+1)))):=by
 have e:((i:Int)+1).toNat=i+1:=by omega
 have h0:(0 :Int)≤(i:Int)+1:=by omega
 have h1:i+1≤k:=hi
 simp[sliceD,boundsD,D.asNat?,sub,e,h0,h1,h]
theorem s_drop{s:List UInt8}{k:Nat}(h:k<s.length):sliceD 0 (.p (.str s)) (some (.p (.int .i64 ((k:Int)+1)))) none=some (.p (.str (s.drop (k+1)))):=by
 have e:((k:Int)+1).toNat=k+1:=by omega
 have h0:(0 :Int)≤(k:Int)+1:=by omega
 have h1:k+1≤s.length:=h
 simp[sliceD,boundsD,D.asNat?,sub,e,h0,h1]
theorem bS_add{a b:List UInt8}(h:a.length+b.length≤140737488355328):binD .add (.p (.str a)) (.p (.str b))=some (.p (.str (a++b))):=by
 simp[binD,strBin,h]
theorem bU_ne(x y:Int):binD .neq (.p (.int .u8 x)) (.p (.int .u8 y))=some (.p (.bool (!(x==y)))):=rfl
def cutS(s:List UInt8)(i k:Nat):List UInt8:=s.take i++(s.take k).drop (i+1)++s.drop (k+1)
theorem cutS_len{s:List UInt8}{i k:Nat}:(cutS s i k).length≤3*s.length:=by
 unfold cutS
 simp only[List.length_append,List.length_take,List.length_drop]
 omega
theorem pf_snd(s:List UInt8):(pf s).2= .nils∨∃x,(pf s).2= .slice 2 [x]:=by
 unfold pf
 split
 ·exact .inr ⟨_,rfl⟩
 ·split
  ·exact .inl rfl
  ·exact .inr ⟨_,rfl⟩
theorem cut_ne{a:Nd}{i k:Nat}(hi:(Pj.txt a true)[i]? =some 40)(hk:i<k)(hl:k<(Pj.txt a true).length)(h:(pf (cutS (Pj.txt a true) i k)).2= .nils):eqN a (pf (cutS (Pj.txt a true) i k)).1=false:=by
 cases he:eqN a (pf (cutS (Pj.txt a true) i k)).1 with
 |false=>rfl
 |true=>
  exfalso
  have h1:=txt_er (er_of_eqN _ _ _ (Nat.le_refl _) he)
  have h2:=pf_pc (s:=cutS (Pj.txt a true) i k) (n:=(pf (cutS (Pj.txt a true) i k)).1) (by rw[←h])
  have h3:=pc_cut hi hk hl
  have h4:cutS (Pj.txt a true) i k=(Pj.txt a true).take i++(((Pj.txt a true).take k).drop (i+1)++(Pj.txt a true).drop (k+1)):=by
   unfold cutS;rw[List.append_assoc]
  rw[←h1,h4] at h2
  omega
def mmS(a:Nd)(s:List UInt8)(i:Nat):St:=⟨[(1,.box 0 0),(3,.p (.bool true)),(5,.p (.str s)),(6,.p (.int .i64 i))],⟨[a.cells.map .p],[]⟩⟩
theorem mm_end(a:Nd)(s:List UInt8):∃env,evS (call pg) pg.G iterX fc12_b0 (mmS a s s.length)=some (.exit 0,⟨env,⟨[a.cells.map .p],[]⟩⟩)∧env.get 3= .p (.bool true):=by
 refine⟨?_,?_,?_⟩
 rotate_left
 ·simp only[mmS,Nd.cells,List.map_cons,List.map_nil]
  simp[fc12_b0,evKC,evK,put,Env.get,Env.keep,Opd.ev,binD,lenD,mapO,D.renL,D.ren,locD,below,Out.ren,List.map]
  rfl
 ·rfl
theorem mm_skip{a:Nd}{s:List UInt8}(hs:s.length≤1000000){i:Nat}(hi:i<s.length)(h:s[i]≠40):evS (call pg) pg.G iterX fc12_b0 (mmS a s i)=some (.norm,mmS a s (i+1)):=by
 have hlt':(i:Int)<(s.length:Int):=by omega
 have hw:=inc64 (k:=i) (by omega)
 have ek:((i+1 :Nat):Int)=(i:Int)+1:=rfl
 have hb1:(((s[i]).toNat:Int)!=40)=(s[i]!=40):=Lx.all_bytes (p:=fun c=>((c.toNat:Int)!=40)=(c !=40)) (by decide+kernel) _
 have hb2:(s[i]!=40)=true:=by simp[bne,h]
 rw[hb2] at hb1
 generalize hg:s[i]=b at *
 simp only[mmS,Nd.cells,List.map_cons,List.map_nil,ek]
 rw[ek] at hw
 simp[fc12_b0,evKC,evK,put,Env.get,Env.keep,Opd.ev,indexD,D.asInt?,u8,binD,lenD,mapO,Int.toNat_natCast,D.renL,D.ren,locD,below,Out.ren,List.map,hg,hlt',hw,hi,hb1]
theorem mm_cut{a:Nd}(hsz:a.size≤1000000)(hs:(Pj.txt a true).length≤1000000)(hbl:Bl (Pj.txt a true)){i:Nat}(hi:i<(Pj.txt a true).length)(h:(Pj.txt a true)[i]=40):
    evS (call pg) pg.G iterX fc12_b0 (mmS a (Pj.txt a true) i)=some (.norm,mmS a (Pj.txt a true) (i+1)):=by
 have hi40:(Pj.txt a true)[i]? =some 40:=by rw[List.getElem?_eq_getElem hi,h]
 obtain⟨m,hc,hm1,hm2,_⟩:=closes hbl hi40
 have hcl:=closing_eq hs hi40 hc
 have hne:=cut_ne hi40 (k:=i+m) (by omega) hm2
 have hcs:=cutS_len (s:=Pj.txt a true) (i:=i) (k:=i+m)
 have hpf:=fun H=>pf_eq (cutS (Pj.txt a true) i (i+m)) (by omega) H
 have t1:=s_take (s:=Pj.txt a true) (i:=i) (by omega)
 have t2:=s_mid (s:=Pj.txt a true) (i:=i) (k:=i+m) (by omega) (by omega)
 have t3:=s_drop (s:=Pj.txt a true) (k:=i+m) hm2
 have b1:=bS_add (a:=(Pj.txt a true).take i) (b:=((Pj.txt a true).take (i+m)).drop (i+1)) (by simp only[List.length_take,List.length_drop];omega)
 have b2:=bS_add (a:=(Pj.txt a true).take i++((Pj.txt a true).take (i+m)).drop (i+1)) (b:=(Pj.txt a true).drop (i+m+1)) (by simp only[List.length_append,List.length_take,List.length_drop];omega)
 have hcd:(Pj.txt a true).take i++((Pj.txt a true).take (i+m)).drop (i+1)++(Pj.txt a true).drop (i+m+1)=cutS (Pj.txt a true) i (i+m):=rfl
 rw[hcd] at b2
 have hps:=pf_snd (cutS (Pj.txt a true) i (i+m))
 have heq:=fun H=>equalNodes_eq (a:=a) (b:=(pf (cutS (Pj.txt a true) i (i+m))).1) (by omega) H
 generalize pf (cutS (Pj.txt a true) i (i+m))=r at *
 obtain⟨b,d⟩:=r
 generalize cutS (Pj.txt a true) i (i+m)=s4 at *
 generalize (Pj.txt a true).take i++((Pj.txt a true).take (i+m)).drop (i+1)=s3 at *
 generalize (Pj.txt a true).take i=s1 at *
 generalize ((Pj.txt a true).take (i+m)).drop (i+1)=s2 at *
 generalize (Pj.txt a true).drop (i+m+1)=s5 at *
 generalize hS:Pj.txt a true=S at *
 dsimp only at hne hps hpf heq
 have hlt':(i:Int)<(S.length:Int):=by omega
 have hw:=inc64 (k:=i) (by omega)
 have hw2:=inc64 (k:=i+m) (by omega)
 have hge:¬((i+m:Nat):Int)<0:=by omega
 have ek:((i+1 :Nat):Int)=(i:Int)+1:=rfl
 have em:((i+m+1 :Nat):Int)=((i+m:Nat):Int)+1:=rfl
 rw[ek] at hw
 rw[em] at hw2
 generalize hkm:((i+m:Nat):Int)=K at *
 have k1:=pone_kids a
 have k2:=pone_kids b
 have c1:=kids_cells a
 have c2:=kids_cells b
 rw[pd_cells a,pd_cells b] at heq
 rw[pd_cells b] at hpf
 simp only[mmS,Nd.cells,List.map_cons,List.map_nil,ek] at hpf heq⊢
 rcases hps with q |⟨x,q⟩
 ·rw[hne q] at heq
  subst q
  simp[fc12_b0,evKC,evK,evGuard,put,Env.get,Env.keep,Opd.ev,splice,cutAt,indexD,D.asInt?,u8,lenD,sub,clsP,cls,clsR,isCl,isW,apartRW,offB,apartWW,clash,insOk,mapO,D.cells,D.refsL,D.refs,D.toksL,D.toks,mkAgg,pures,Int.toNat_natCast,D.renL,D.ren,locD,below,Out.ren,List.map,ld_succ,ld_zero,st_succ,st_zero,oP,h,hlt',hw,hw2,hi,hcl,hge,t1,t2,t3,b1,b2,hpf,heq,k2,bI_lt,bI_add,bI_eq,bU_ne]
 ·subst q
  simp[fc12_b0,evKC,evK,evGuard,put,Env.get,Env.keep,Opd.ev,splice,indexD,D.asInt?,u8,lenD,clsP,cls,clsR,isCl,isW,apartRW,offB,apartWW,clash,insOk,mapO,D.cells,D.refsL,D.refs,D.toksL,D.toks,D.elems?,Int.toNat_natCast,D.renL,D.ren,locD,below,Out.ren,List.map,st_succ,st_zero,oP,h,hlt',hw,hw2,hi,hcl,hge,t1,t2,t3,b1,b2,hpf,k2,bI_lt,bI_add,bI_eq,bU_ne]
theorem mm_loop{a:Nd}(hsz:a.size≤1000000)(hs:(Pj.txt a true).length≤1000000)(hbl:Bl (Pj.txt a true)):∀(n i:Nat),(Pj.txt a true).length-i≤n→i≤(Pj.txt a true).length→
    ∃env,loopK (call pg) pg.G [1,3,5,6] fc12_b0 (mmS a (Pj.txt a true) i)=some (.exit 0,⟨env,⟨[a.cells.map .p],[]⟩⟩)∧env.get 3= .p (.bool true):=by
 intro n
 induction n with
 |zero=>
  intro i hn hi
  have :i=(Pj.txt a true).length:=by omega
  subst this
  obtain⟨env,e,e3⟩:=mm_end a (Pj.txt a true)
  exact⟨env,loopK_out e (by simp),e3⟩
 |succ n ih=>
  intro i hn hi
  by_cases hq:i=(Pj.txt a true).length
  ·subst hq
   obtain⟨env,e,e3⟩:=mm_end a (Pj.txt a true)
   exact⟨env,loopK_out e (by simp),e3⟩
  ·have hlt:i<(Pj.txt a true).length:=by omega
   obtain⟨env,e,e3⟩:=ih (i+1) (by omega) (by omega)
   refine⟨env,?_,e3⟩
   rw[←e]
   by_cases h:(Pj.txt a true)[i]=40
   ·exact loopK_norm (mm_cut hsz hs hbl hlt h)
   ·exact loopK_norm (mm_skip hs hlt h)
theorem law12(a:Nd):∃H',call pg 12 [.p a.pd] ⟨[],[]⟩=some (.val (.p (.bool true)),H'):=by
 have o1:=one_all a
 have hhead:=head32_call
 have hfrm:=fun H=>frmR_eq a H
 have lnd:∀G tk,loadD G ⟨[a.cells.map .p],tk⟩ (some 5) (.box 0 0)=some (.p a.pd):=fun G tk=>load_ndb (i:=0) rfl
 cases hf:frmR a with
 |false=>
  rw[hf] at hfrm
  rw[pd_cells] at lnd hfrm⊢
  refine⟨_,call_body (fc:=fc12) rfl rfl rfl rfl (r:=(_,⟨[a.cells.map .p],[]⟩)) ?_⟩
  simp[fc12,evKC,evK,put,Env.get,Env.keep,entry,Opd.ev,unD,finish,evRes,evRes1,D.cells,o1,lnd,hhead,hfrm]
 |true=>
  rw[hf] at hfrm
  unfold frmR at hf
  rw[Bool.and_eq_true] at hf
  have hsz:=validR_size hf.1
  have hv:=valid_of hf.1
  have hw:=valid_wf hv
  have hl:=txt_len 24 a hw true
  have hprint:=fun H=>Pj.formula_eq (a:=a) (by omega) (valid_i64s _ a (Nat.le_refl _) hv) (by omega) H
  obtain⟨env,hlp,he3⟩:=mm_loop (a:=a) (by omega) (by omega) (txt_bl 24 a hw true) (Pj.txt a true).length 0 (by omega) (by omega)
  generalize Pj.txt a true=s at *
  have hgt:¬(160000 :Int)<(s.length:Int):=by omega
  refine⟨⟨[a.cells.map .p],[]⟩,call_body (fc:=fc12) rfl rfl rfl rfl (r:=(_,⟨[a.cells.map .p],[]⟩)) ?_⟩
  rw[pd_cells a] at lnd hfrm hprint⊢
  simp only[mmS,Nd.cells,List.map_cons,List.map_nil,Int.natCast_zero] at lnd hfrm hprint hlp⊢
  simp[fc12,evKC,evK,put,Env.keep,entry,Opd.ev,binD,unD,lenD,finish,evRes,evRes1,D.cells,oP,hhead,hfrm,hprint,lnd,hlp,hgt,he3,Env.get]
end Go.Proofs.YtalgjkpkkdljaaaGreatDoor
namespace Go.Proofs.YtalgjkpkkdljaaaGreatDoor
open Go.Vs Go.ChangeShapes Go.WideShapes Go.RowKit
end Go.Proofs.YtalgjkpkkdljaaaGreatDoor
