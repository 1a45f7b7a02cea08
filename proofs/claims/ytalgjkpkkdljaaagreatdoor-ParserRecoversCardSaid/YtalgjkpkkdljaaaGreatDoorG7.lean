/-
  A value-level evaluator for Go functions; the functions of this cut by it; plain laws. Part 7 of 7.
-/
import Derived.Test.YtalgjkpkkdljaaaGreatDoorG6
import Derived.Test.YtalgjkpkkdljaaaGreatDoorG4
namespace Go.Proofs.YtalgjkpkkdljaaaGreatDoor
open Go.Vs
def badT:List (List UInt8):=[[115,111,114,116,32,59],[115,111,114,116,32,97,32,98,59],[102,105,101,108,100,32,102,32,58,32,59],[102,97,99,116,32,120,32,123,32,110,111,32,125],[112,114,101,100,32,112,91,120,93,32,123,32,125],[43,32,59],[102,97,99,116,32,123,32,116,114,117,101,32,125],[102,97,99,116,32,121,32,123,32,116,114,117,101,32,116,114,117,101,32,125]]
structure BadX (x:List UInt8) (l:List Tok) (j:Nat):Prop where
 lx:Lx.lex x=(l,0,0)
 jl:j<l.length
 ps:∀y∈l,y.p<x.length
 en:∀i,j≤i→i+1<l.length→∀y,l[i]? =some y→y.t≠[59]∧y.t≠[125]
 la:∀y,l[l.length-1]? =some y→y.t=[59]∨y.t=[125]
 dc:∀(c:Rd) (q:Sp) (a:Nat),q.S.length<4→q.F.length<6→q.P.length<8→q.A.length<16→(∀i y,l[i]? =some y→(c.tok (a+i)).k=y.k∧(c.tok (a+i)).t=y.t)→declP c q a= .bad 20 (c.tok (a+j)).p (a+j)
theorem wrongT{α:Type}{c:Rd}{a:Nat}(h:(c.tok a).k≠0):(wrongP c a:PR α)= .bad 20 (c.tok a).p a:=by
 unfold wrongP;rw[if_neg h]
theorem nameB{c:Rd}{a:Nat}(h:namedB (c.tok a)=false):nameP c a=wrongP c a:=by unfold nameP;rw[h];rfl
theorem nameG{c:Rd}{a:Nat}(h:namedB (c.tok a)=true):nameP c a= .ok (c.tok a) (a+1):=by unfold nameP;rw[h];rfl
theorem expB{c:Rd}{a:Nat}{s:List UInt8}(h:acceptB c a s=false):expectP c a s=wrongP c a:=by unfold expectP;rw[h];rfl
theorem expG{c:Rd}{a:Nat}{s:List UInt8}(h:acceptB c a s=true):expectP c a s= .ok () (a+1):=by unfold expectP;rw[h];rfl
theorem nmk{x:Tok}(k:Int)(t:List UInt8)(h:x.k=k∧x.t=t):namedB x=(k==1&& !kw t):=by unfold namedB;rw[h.1,h.2]
theorem ack{c:Rd}{a:Nat}(k:Int)(t:List UInt8)(h:(c.tok a).k=k∧(c.tok a).t=t)(s:List UInt8):acceptB c a s=(!(k==0)&&t==s):=by unfold acceptB;rw[h.1,h.2]
theorem bad0:BadX [115,111,114,116,32,59] [⟨1,[115,111,114,116],0⟩,⟨3,[59],5⟩] 1 where
 lx:=by kernel_rfl
 jl:=by decide
 ps:=by decide
 en:=fun i h1 h2 y h3=>by
  simp only[List.length_cons,List.length_nil] at h2
  omega
 la:=fun y h=>by cases h;decide
 dc:=fun c q a hS hF hP hA ht=>by
  have t0:=ht 0 _ rfl
  have t1:=ht 1 _ rfl
  dsimp only at t0 t1
  rw[Nat.add_zero] at t0
  have hw:∀{α:Type},(wrongP c (a+1):PR α)= .bad 20 (c.tok (a+1)).p (a+1):=wrongT (by rw[t1.1];decide)
  unfold declP
  rw[t0.2]
  rw[if_pos rfl]
  unfold sortDeclP
  rw[if_neg (by omega),nameB (by rw[nmk _ _ t1];decide+kernel),hw]
  rfl
theorem bad1:BadX [115,111,114,116,32,97,32,98,59] [⟨1,[115,111,114,116],0⟩,⟨1,[97],5⟩,⟨1,[98],7⟩,⟨3,[59],8⟩] 2 where
 lx:=by kernel_rfl
 jl:=by decide
 ps:=by decide
 en:=fun i h1 h2 y h3=>by
  simp only[List.length_cons,List.length_nil] at h2
  have :i=2:=by omega
  subst this
  cases h3
  decide
 la:=fun y h=>by cases h;decide
 dc:=fun c q a hS hF hP hA ht=>by
  have t0:=ht 0 _ rfl
  have t1:=ht 1 _ rfl
  have t2:=ht 2 _ rfl
  have t3:=ht 3 _ rfl
  dsimp only at t0 t1 t2 t3
  rw[Nat.add_zero] at t0
  have hw:∀{α:Type},(wrongP c (a+2):PR α)= .bad 20 (c.tok (a+2)).p (a+2):=wrongT (by rw[t2.1];decide)
  unfold declP
  rw[t0.2]
  rw[if_pos rfl]
  unfold sortDeclP
  rw[if_neg (by omega),nameG (by rw[nmk _ _ t1];decide+kernel),Same2.obind]
  have h2:acN c (a+1+1) [111,114,100,101,114,101,100]=a+2:=by
   unfold acN
   rw[ack _ _ t2,if_neg (by decide+kernel)]
  rw[h2,expB (by rw[ack _ _ t2];decide+kernel),hw]
  rfl
theorem bad2:BadX [102,105,101,108,100,32,102,32,58,32,59] [⟨1,[102,105,101,108,100],0⟩,⟨1,[102],6⟩,⟨3,[58],8⟩,⟨3,[59],10⟩] 3 where
 lx:=by kernel_rfl
 jl:=by decide
 ps:=by decide
 en:=fun i h1 h2 y h3=>by
  simp only[List.length_cons,List.length_nil] at h2
  omega
 la:=fun y h=>by cases h;decide
 dc:=fun c q a hS hF hP hA ht=>by
  have t0:=ht 0 _ rfl
  have t1:=ht 1 _ rfl
  have t2:=ht 2 _ rfl
  have t3:=ht 3 _ rfl
  dsimp only at t0 t1 t2 t3
  rw[Nat.add_zero] at t0
  have hw:∀{α:Type},(wrongP c (a+3):PR α)= .bad 20 (c.tok (a+3)).p (a+3):=wrongT (by rw[t3.1];decide)
  unfold declP
  rw[t0.2]
  rw[if_neg (by decide),if_pos (by decide)]
  unfold fieldDeclP
  have h0:acN c a [118,97,114]=a:=by
   unfold acN
   rw[ack _ _ t0,if_neg (by decide+kernel)]
  rw[if_neg (by omega),h0,expG (by rw[ack _ _ t0];decide+kernel),Same2.obind,nameG (by rw[nmk _ _ t1];decide+kernel),Same2.obind,expG (by rw[ack _ _ t2];decide+kernel),Same2.obind]
  have h3:sortP c q.S (a+1+1+1)= .bad 20 (c.tok (a+3)).p (a+3):=by
   unfold sortP
   rw[if_neg (fun h=>by rw[nmk _ _ t3] at h;exact absurd h (by decide))]
   exact hw
  rw[h3]
  rfl
theorem bad3:BadX [102,97,99,116,32,120,32,123,32,110,111,32,125] [⟨1,[102,97,99,116],0⟩,⟨1,[120],5⟩,⟨3,[123],7⟩,⟨1,[110,111],9⟩,⟨3,[125],12⟩] 4 where
 lx:=by kernel_rfl
 jl:=by decide
 ps:=by decide
 en:=fun i h1 h2 y h3=>by
  simp only[List.length_cons,List.length_nil] at h2
  omega
 la:=fun y h=>by cases h;decide
 dc:=fun c q a hS hF hP hA ht=>by
  have t0:=ht 0 _ rfl
  have t1:=ht 1 _ rfl
  have t2:=ht 2 _ rfl
  have t3:=ht 3 _ rfl
  have t4:=ht 4 _ rfl
  dsimp only at t0 t1 t2 t3 t4
  rw[Nat.add_zero] at t0
  have hw:∀{α:Type},(wrongP c (a+4):PR α)= .bad 20 (c.tok (a+4)).p (a+4):=wrongT (by rw[t4.1];decide)
  unfold declP
  rw[t0.2]
  rw[if_neg (by decide),if_neg (by decide),if_neg (by decide),if_pos rfl]
  unfold factDeclP blockP
  rw[if_neg (by omega),nameG (by rw[nmk _ _ t1];decide+kernel),Same2.obind,expG (by rw[ack _ _ t2];decide+kernel),Same2.obind]
  have hp:∀d lev,parseP c (d+1+1) lev (a+4)= .bad 20 (c.tok (a+4)).p (a+4):=fun d lev=>by
   unfold parseP
   rw[if_neg (fun h=>absurd h.1 (by omega))]
   unfold operandP
   dsimp only
   rw[t4.2,if_neg (fun h=>absurd h.2 (by decide)),if_neg (fun h=>absurd h.1 (by decide))]
   rw[show lookT preT [125]=none from rfl]
   dsimp only
   unfold primaryP
   rw[t4.2,show wordOp [125]=none from rfl]
   dsimp only
   rw[if_neg (by rw[t4.1];decide),if_neg (fun h=>absurd h.1 (by decide)),if_neg (by decide),if_neg (by rw[ack _ _ t4];decide+kernel),if_neg (by rw[ack _ _ t4];decide+kernel),if_neg (by rw[ack _ _ t4];decide+kernel),nameB (by rw[nmk _ _ t4];decide+kernel),hw]
   rfl
  have hh:wholeP c (a+1+1+1)= .bad 20 (c.tok (a+4)).p (a+4):=by
   unfold wholeP parseP
   rw[if_neg (fun h=>absurd h.1 (by decide))]
   unfold operandP
   dsimp only
   have t3':(c.tok (a+1+1+1)).k=1∧(c.tok (a+1+1+1)).t=[110,111]:=t3
   rw[t3'.2,if_neg (fun h=>absurd h.2 (by decide)),if_neg (fun h=>absurd h.1 (by decide))]
   rw[show lookT preT [110,111]=some ⟨8,35⟩ from rfl]
   dsimp only
   rw[if_pos (by rw[t3'.1];decide),show a+1+1+1+1=a+4 from rfl,hp 98]
   rfl
  rw[hh]
  rfl
theorem bad4:BadX [112,114,101,100,32,112,91,120,93,32,123,32,125] [⟨1,[112,114,101,100],0⟩,⟨1,[112],5⟩,⟨3,[91],6⟩,⟨1,[120],7⟩,⟨3,[93],8⟩,⟨3,[123],10⟩,⟨3,[125],12⟩] 4 where
 lx:=by kernel_rfl
 jl:=by decide
 ps:=by decide
 en:=fun i h1 h2 y h3=>by
  simp only[List.length_cons,List.length_nil] at h2
  have :i=4∨i=5:=by omega
  rcases this with rfl |rfl<;>(cases h3;decide)
 la:=fun y h=>by cases h;decide
 dc:=fun c q a hS hF hP hA ht=>by
  have t0:=ht 0 _ rfl
  have t1:=ht 1 _ rfl
  have t2:=ht 2 _ rfl
  have t3:=ht 3 _ rfl
  have t4:=ht 4 _ rfl
  have t5:=ht 5 _ rfl
  have t6:=ht 6 _ rfl
  dsimp only at t0 t1 t2 t3 t4 t5 t6
  rw[Nat.add_zero] at t0
  have hw:∀{α:Type},(wrongP c (a+4):PR α)= .bad 20 (c.tok (a+4)).p (a+4):=wrongT (by rw[t4.1];decide)
  unfold declP
  rw[t0.2]
  rw[if_neg (by decide),if_neg (by decide),if_pos rfl]
  unfold predDeclP
  rw[if_neg (by omega),nameG (by rw[nmk _ _ t1];decide+kernel),Same2.obind,expG (by rw[ack _ _ t2];decide+kernel),Same2.obind]
  have h3:paramsP c q.S (c.ts.length+1) [] (a+1+1+1)= .bad 20 (c.tok (a+4)).p (a+4):=by
   unfold paramsP
   rw[if_neg (by rw[show a+1+1+1=a+3 from rfl,ack _ _ t3];decide+kernel),show sepM c [] (a+1+1+1)= .ok () (a+3) from rfl,Same2.obind,nameG (by rw[nmk _ _ t3];decide+kernel),Same2.obind,expB (by rw[show a+3+1=a+4 from rfl,ack _ _ t4];decide+kernel),show a+3+1=a+4 from rfl,hw]
   rfl
  rw[h3]
  rfl
theorem bad5:BadX [43,32,59] [⟨3,[43],0⟩,⟨3,[59],2⟩] 0 where
 lx:=by kernel_rfl
 jl:=by decide
 ps:=by decide
 en:=fun i h1 h2 y h3=>by
  simp only[List.length_cons,List.length_nil] at h2
  have :i=0:=by omega
  subst this
  cases h3
  decide
 la:=fun y h=>by cases h;decide
 dc:=fun c q a hS hF hP hA ht=>by
  have t0:=ht 0 _ rfl
  have t1:=ht 1 _ rfl
  dsimp only at t0 t1
  rw[Nat.add_zero] at t0
  have hw:∀{α:Type},(wrongP c a:PR α)= .bad 20 (c.tok a).p a:=wrongT (by rw[t0.1];decide)
  unfold declP
  rw[t0.2]
  rw[if_neg (by decide),if_neg (by decide),if_neg (by decide),if_neg (by decide),hw]
  rfl
theorem bad6:BadX [102,97,99,116,32,123,32,116,114,117,101,32,125] [⟨1,[102,97,99,116],0⟩,⟨3,[123],5⟩,⟨1,[116,114,117,101],7⟩,⟨3,[125],12⟩] 1 where
 lx:=by kernel_rfl
 jl:=by decide
 ps:=by decide
 en:=fun i h1 h2 y h3=>by
  simp only[List.length_cons,List.length_nil] at h2
  have :i=1∨i=2:=by omega
  rcases this with rfl |rfl<;>(cases h3;decide)
 la:=fun y h=>by cases h;decide
 dc:=fun c q a hS hF hP hA ht=>by
  have t0:=ht 0 _ rfl
  have t1:=ht 1 _ rfl
  have t2:=ht 2 _ rfl
  have t3:=ht 3 _ rfl
  dsimp only at t0 t1 t2 t3
  rw[Nat.add_zero] at t0
  have hw:∀{α:Type},(wrongP c (a+1):PR α)= .bad 20 (c.tok (a+1)).p (a+1):=wrongT (by rw[t1.1];decide)
  unfold declP
  rw[t0.2]
  rw[if_neg (by decide),if_neg (by decide),if_neg (by decide),if_pos rfl]
  unfold factDeclP
  rw[if_neg (by omega),nameB (by rw[nmk _ _ t1];decide+kernel),hw]
  rfl
theorem bad7:BadX [102,97,99,116,32,121,32,123,32,116,114,117,101,32,116,114,117,101,32,125] [⟨1,[102,97,99,116],0⟩,⟨1,[121],5⟩,⟨3,[123],7⟩,⟨1,[116,114,117,101],9⟩,⟨1,[116,114,117,101],14⟩,⟨3,[125],19⟩] 4 where
 lx:=by kernel_rfl
 jl:=by decide
 ps:=by decide
 en:=fun i h1 h2 y h3=>by
  simp only[List.length_cons,List.length_nil] at h2
  have :i=4:=by omega
  subst this
  cases h3
  decide
 la:=fun y h=>by cases h;decide
 dc:=fun c q a hS hF hP hA ht=>by
  have t0:=ht 0 _ rfl
  have t1:=ht 1 _ rfl
  have t2:=ht 2 _ rfl
  have t3:=ht 3 _ rfl
  have t4:=ht 4 _ rfl
  have t5:=ht 5 _ rfl
  dsimp only at t0 t1 t2 t3 t4 t5
  rw[Nat.add_zero] at t0
  have hw:∀{α:Type},(wrongP c (a+4):PR α)= .bad 20 (c.tok (a+4)).p (a+4):=wrongT (by rw[t4.1];decide)
  unfold declP
  rw[t0.2]
  rw[if_neg (by decide),if_neg (by decide),if_neg (by decide),if_pos rfl]
  unfold factDeclP blockP
  rw[if_neg (by omega),nameG (by rw[nmk _ _ t1];decide+kernel),Same2.obind,expG (by rw[ack _ _ t2];decide+kernel),Same2.obind]
  have hh:wholeP c (a+1+1+1)= .ok (leafN 30 [] 0 (c.tok (a+3)).p) (a+4):=by
   have t3':(c.tok (a+1+1+1)).k=1∧(c.tok (a+1+1+1)).t=[116,114,117,101]:=t3
   have t4':(c.tok (a+1+1+1+1)).k=1∧(c.tok (a+1+1+1+1)).t=[116,114,117,101]:=t4
   unfold wholeP parseP
   rw[if_neg (fun h=>absurd h.1 (by decide))]
   unfold operandP
   dsimp only
   rw[t3'.2,if_neg (fun h=>absurd h.2 (by decide)),if_neg (fun h=>absurd h.1 (by decide))]
   rw[show lookT preT [116,114,117,101]=none from rfl]
   dsimp only
   unfold primaryP
   rw[t3'.2,show wordOp [116,114,117,101]=some 30 from rfl]
   dsimp only
   rw[Same2.obind]
   unfold primesP
   rw[if_neg (by rw[t4'.2];decide),Same2.obind]
   unfold opsP
   dsimp only
   rw[t4'.2,show lookT binT [116,114,117,101]=none from rfl]
   dsimp only
   rw[Same2.obind,if_neg (by show ¬knd 30≠3;decide),if_neg (by rw[show validN (leafN 30 [] 0 (c.tok (a+1+1+1)).p)=true from rfl];decide)]
  rw[hh,Same2.obind,expB (by rw[ack _ _ t4];decide+kernel),hw]
  rfl
theorem bad_all:∀x∈badT,∃l j,BadX x l j:=by
 intro x hx
 simp only[badT,List.mem_cons,List.not_mem_nil,or_false] at hx
 rcases hx with rfl |rfl |rfl |rfl |rfl |rfl |rfl |rfl
 ·exact⟨_,_,bad0⟩
 ·exact⟨_,_,bad1⟩
 ·exact⟨_,_,bad2⟩
 ·exact⟨_,_,bad3⟩
 ·exact⟨_,_,bad4⟩
 ·exact⟨_,_,bad5⟩
 ·exact⟨_,_,bad6⟩
 ·exact⟨_,_,bad7⟩
section
variable {s w : List UInt8} (hs : s.length ≤ 20000) (hw : w.length ≤ 20000) {δ b L : Nat} (hk : ∀ i, b ≤ i → i < L → ktAt (rdF s []) i = ktAt (rdF w []) (i + δ))
def mB(q q':Sp)(hk:∀i,b≤i→i<L→ktAt (rdF s []) i=ktAt (rdF w []) (i+δ)):Same2 where
 c:=rdS s q
 c':=rdS w q'
 δ:=δ
 b:=b
 I:=fun i=>i<L
 dn:=fun i j h1 h2=>by show j<L;have h1:i<L:=h1;omega
 kt:=fun i hb hi=>by
  have h1:(rdS s q).tok i=(rdF s []).tok i:=tok_X ..
  have h2:(rdS w q').tok (i+δ)=(rdF w []).tok (i+δ):=tok_X ..
  have:=hk i hb hi
  simp only[ktAt] at this⊢
  rw[h1,h2]
  exact this
include hs hw hk in
theorem run_trB{B q q2:Sp}{a a2:Nat}(h:Run s q a q2 a2):b≤a→a2≤L→Fits B q2→∀q',EX B q q'→∃q2',Run w q' (a+δ) q2' (a2+δ)∧EX B q2 q2':=by
 induction h with
 |here q a=>intro _ _ _ q' hq;exact⟨q',.here _ _,hq⟩
 | @step q q1 q2 a a1 a2 hl hd r ih=>
  intro hb h2 hf q' hq
  have w1:=decl_lt (rdS_sz s q hs) (by rw[rdS_len];exact hl) hd
  have w2:=Run.le hs r
  have hlt:=Same2.lt2 (mB q q' hk) (rdS_sz s q hs) hb (show a<L by omega) (by rw[show(mB q q' hk).c=rdS s q from rfl,rdS_len];exact hl)
  rw[show(mB q q' hk).c'=rdS w q' from rfl,rdS_len] at hlt
  obtain⟨g,_⟩:=Same2.declI (M:=mB q q' hk) (rdS_sz s q hs) (rdS_sz w q' hw) hq hb (by rw[show(mB q q' hk).c=rdS s q from rfl,rdS_len];exact hl) (show a1-1<L by omega) hd
  obtain⟨q1',g1,g2⟩:=g (Fits.of_run r hf)
  obtain⟨q2',g3,g4⟩:=ih (by omega) h2 hf q1' g2
  exact⟨q2',.step hlt g1 g3,g4⟩
end
theorem skipP_to{c:Rd}{e:Nat}(he:e<c.ts.length)(hE:(c.tok e).t=[59]∨(c.tok e).t=[125]):∀(n a:Nat),a≤e→e<n+a→(∀i,a≤i→i<e→(c.tok i).t≠[59]∧(c.tok i).t≠[125])→skipP c n a=e+1
 | 0,a,h1,h2,_=>by omega
 |n+1,a,h1,h2,h3=>by
  unfold skipP
  rw[if_pos (by omega)]
  rcases Nat.lt_or_ge a e with q |q
  ·rw[if_neg (fun r=>by rcases r with r |r;exact(h3 a (Nat.le_refl _) q).1 r;exact(h3 a (Nat.le_refl _) q).2 r)]
   exact skipP_to he hE n (a+1) (by omega) (by omega) fun i q1 q2=>h3 i (by omega) q2
  ·have :a=e:=by omega
   subst this
   rw[if_pos hE]
theorem fits_q0{q:Sp}(h:q.Wf):Fits q0 q:=⟨by have:=h.S;show 0+_≤_;omega,by have:=h.F;show 0+_≤_;omega,by have:=h.P;show 0+_≤_;omega,by have:=h.A;show 0+_≤_;omega⟩
theorem run_grow{s:List UInt8}{q q2:Sp}{a a2:Nat}(h:Run s q a q2 a2):q.S.length≤q2.S.length∧q.F.length≤q2.F.length∧q.P.length≤q2.P.length∧q.A.length≤q2.A.length:=by
 induction h with
 |here=>exact⟨Nat.le_refl _,Nat.le_refl _,Nat.le_refl _,Nat.le_refl _⟩
 |step hl h _ ih=>have:=decl_grow h;omega
structure Parted (s:List UInt8) (k m:Nat):Prop where
 le:k≤s.length
 ml:m≤(Lx.lex s).1.length
 fr:Lx.lex (s.take k)=((Lx.lex s).1.take m,0,0)
 bo:(Lx.lex (s.drop k)).2.1=0
 bk:(Lx.lex (s.drop k)).1.map (shT k)=(Lx.lex s).1.drop m
theorem part_ends{s:List UInt8}(hs:s.length≤20000)(he:(Lx.lex s).2.1=0)(hf:(parseS s).f=[]){k:Nat}(hk:k∈endsL (Lx.lex s).1):
    ∃m q',Parted s k m∧Run s q0 0 q' m∧Run s q' m (parseS s) (Lx.lex s).1.length:=by
 rcases spec_ends hs he hf hk with rfl |⟨q',m,r1,r2,hm,hp,ht⟩
 ·refine⟨0,q0,⟨Nat.zero_le _,Nat.zero_le _,?_,he,?_⟩,.here _ _,run_of hs _ 0 q0 (by omega) (Nat.zero_le _) rfl hf⟩
  ·rw[List.take_zero,List.take_zero]
   rfl
  ·rw[List.drop_zero,List.drop_zero]
   conv=>rhs;rw[←List.map_id (Lx.lex s).1]
   exact List.map_congr_left fun x _=>rfl
 ·obtain⟨g1,g2,g3,g4⟩:=part_at hs he hm (by rcases ht with q |q<;>rw[q]<;>rfl) hp
  exact⟨m+1,q',⟨g1,by omega,g2,g3,g4⟩,r1,r2⟩
def insT(s:List UInt8)(k:Nat)(x:List UInt8):List UInt8:=s.take k++10::(x++10::s.drop k)
theorem one_fault{s:List UInt8}(hs:s.length≤4000)(he:(Lx.lex s).2.1=0)(hf:(parseS s).f=[])(hS:(parseS s).S.length<4)(hF:(parseS s).F.length<6)(hP:(parseS s).P.length<8)(hA:(parseS s).A.length<16)
    {k:Nat} (hk:k∈endsL (Lx.lex s).1) {x:List UInt8} (hx:x∈badT):
    k≤s.length∧(Lx.lex (insT s k x)).2.1=0∧∃p,(parseS (insT s k x)).f=[dg 20 p]∧k<p∧p≤k+x.length:=by
 obtain⟨m,q',hp,r1,r2⟩:=part_ends (by omega) he hf hk
 obtain⟨l,j,X⟩:=bad_all x hx
 have hx1:x.length≤100:=by
  have :∀x∈badT,x.length≤100:=by decide
  exact this x hx
 have hll:(insT s k x).length=s.length+x.length+2:=by
  have:=hp.le
  simp only[insT,List.length_append,List.length_cons,List.length_take,List.length_drop]
  omega
 have hw:(insT s k x).length≤20000:=by omega
 have h2l:(x++10::s.drop k).length≤20000:=by
  simp only[List.length_append,List.length_cons,List.length_drop];omega
 have e2:=lex_nl h2l (by rw[X.lx]) hp.bo
 have e1:=lex_nl (a:=s.take k) (b:=x++10::s.drop k) hw (by rw[hp.fr]) (by rw[e2])
 have htk:(s.take k).length=k:=by have:=hp.le;rw[List.length_take];omega
 rw[e2,hp.fr,X.lx,htk] at e1
 dsimp only at e1
 rw[List.map_append,List.map_map] at e1
 have hT:(Lx.lex (insT s k x)).1=(Lx.lex s).1.take m++(l.map (shT (k+1))++(Lx.lex (s.drop k)).1.map (shT (k+1)∘shT (x.length+1))):=congrArg Prod.fst e1
 have he2:(Lx.lex (insT s k x)).2.1=0:=congrArg (fun t=>t.2.1) e1
 have hml:=hp.ml
 have htl:((Lx.lex s).1.take m).length=m:=by rw[List.length_take];omega
 have hbl:(Lx.lex (s.drop k)).1.length=(Lx.lex s).1.length-m:=by
  have:=congrArg List.length hp.bk
  simpa using this
 have hlen:(Lx.lex (insT s k x)).1.length=(Lx.lex s).1.length+l.length:=by
  rw[hT]
  simp only[List.length_append,List.length_map,htl,hbl]
  omega
 generalize hweq:insT s k x=w at *
 have hk1:∀i,0≤i→i<m→ktAt (rdF s []) i=ktAt (rdF w []) (i+0):=fun i _ hi=>by
  rw[Nat.add_zero,ktF,ktF,hT,List.getElem?_append_left (by omega),List.getElem?_take,if_pos hi]
 have hk2:∀i,m≤i→i<(Lx.lex s).1.length→ktAt (rdF s []) i=ktAt (rdF w []) (i+l.length):=fun i h1 h2=>by
  rw[ktF,ktF,hT,List.getElem?_append_right (by omega),htl,List.getElem?_append_right (by rw[List.length_map];omega),List.length_map,show i+l.length-m-l.length=i-m by omega]
  have h3:(Lx.lex s).1[i]? =((Lx.lex s).1.drop m)[i-m]?:=by rw[List.getElem?_drop,show m+(i-m)=i by omega]
  rw[h3,←hp.bk,List.getElem?_map,List.getElem?_map]
  cases (Lx.lex (s.drop k)).1[i-m]? with
  |none=>rfl
  |some y=>rfl
 have hk3:∀i y,l[i]? =some y→(rdF w []).tok (m+i)=⟨y.k,y.t,y.p+(k+1)⟩:=fun i y h=>by
  have hi:i<l.length:=(List.getElem?_eq_some_iff.1 h).1
  rw[tok_get,hT,List.getElem?_append_right (by omega),htl,show m+i-m=i by omega,List.getElem?_append_left (by rw[List.length_map];exact hi),List.getElem?_map,h]
  rfl
 obtain⟨w1,_,_⟩:=specL_ok (s:=s) (by omega) ((Lx.lex s).1.length+1) 0 q0 wf_q0 (fun x hx=>(List.not_mem_nil hx).elim) (by decide) (Nat.zero_le _)
 rw[show specL s ((Lx.lex s).1.length+1) q0 0=parseS s from rfl] at w1
 have hg:=run_grow r2
 have fits1:Fits q0 q':=by
  have:=fits_q0 w1
  exact⟨by have:=this.S;show 0+_≤_;have h:0+(parseS s).S.length≤4:=this;omega,by have:=this.F;show 0+_≤_;have h:0+(parseS s).F.length≤6:=this;omega,by have:=this.P;show 0+_≤_;have h:0+(parseS s).P.length≤8:=this;omega,by have:=this.A;show 0+_≤_;have h:0+(parseS s).A.length≤16:=this;omega⟩
 obtain⟨Q,g1,g2⟩:=run_trB (w:=w) (b:=0) (by omega) hw hk1 r1 (Nat.le_refl _) (Nat.le_refl _) fits1 q0 ⟨rfl,rfl,rfl,rfl⟩
 rw[Nat.add_zero,Nat.add_zero] at g1
 obtain⟨z1,z2,z3,z4⟩:=g2.zero
 have zp:Q.P.length=q'.P.length:=by have:=congrArg List.length z3;simpa using this
 have za:Q.A.length=q'.A.length:=by have:=congrArg List.length z4;simpa using this
 have hff:Q.f=[]:=g1.f
 have tx:∀(q:Sp) i,(rdS w q).tok i=(rdF w []).tok i:=fun q i=>tok_X ..
 have hd:=X.dc (rdS w Q) Q m (by rw[z1];omega) (by rw[z2];omega) (by omega) (by omega) (fun i y h=>by rw[tx,hk3 i y h];exact⟨rfl,rfl⟩)
 have hjl:=X.jl
 obtain⟨y,hy⟩:∃y,l[j]? =some y:=⟨_,List.getElem?_eq_getElem hjl⟩
 have hpos:((rdS w Q).tok (m+j)).p=y.p+(k+1):=by rw[tx,hk3 j y hy]
 have hyp:=X.ps y (List.mem_of_getElem? hy)
 rw[hpos] at hd
 have hlm:(Lx.lex w).1.length=(Lx.lex s).1.length+l.length:=hlen
 have hskip:skipP (rdS w Q) ((Lx.lex w).1.length+1) (m+j)=m+l.length:=by
  have hel:m+(l.length-1)<(rdS w Q).ts.length:=by rw[rdS_len];omega
  have:=skipP_to (c:=rdS w Q) hel ?_ ((Lx.lex w).1.length+1) (m+j) (by omega) (by omega) ?_
  ·rw[this];omega
  ·obtain⟨y2,hy2⟩:∃y,l[l.length-1]? =some y:=⟨_,List.getElem?_eq_getElem (by omega)⟩
   rw[tx,hk3 _ y2 hy2]
   exact X.la y2 hy2
  ·intro i q1 q2
   obtain⟨i,rfl⟩:∃i',i=m+i':=⟨i-m,by omega⟩
   obtain⟨y2,hy2⟩:∃y,l[i]? =some y:=⟨_,List.getElem?_eq_getElem (by omega)⟩
   rw[tx,hk3 _ y2 hy2]
   exact X.en i (by omega) (by omega) y2 hy2
 have fits2:Fits q0 (parseS s):=fits_q0 w1
 obtain⟨Q2,g3,g4⟩:=run_trB (w:=w) (b:=m) (by omega) hw hk2 r2 (Nat.le_refl _) (Nat.le_refl _) fits2 (Q.flt 20 (y.p+(k+1))) ⟨g2.S,g2.F,g2.P,g2.A⟩
 rw[←hlm] at g3
 refine⟨hp.le,he2,y.p+(k+1),?_,by omega,by omega⟩
 obtain⟨n2,hn,h1⟩:=spec_run hw g1 (by decide) ((Lx.lex w).1.length+1) (by omega)
 rw[show specL w ((Lx.lex w).1.length+1) q0 0=parseS w from rfl] at h1
 rw[h1]
 obtain⟨n3,rfl⟩:∃k,n2=k+1:=⟨n2-1,by omega⟩
 unfold specL
 rw[rdS_len,if_pos ⟨by omega,by rw[hff];decide⟩,hd]
 dsimp only
 rw[if_neg (by decide),hskip]
 obtain⟨n4,hn4,h4⟩:=spec_run hw g3 (by show(Q.f++[dg 20 (y.p+(k+1))]).length<20;rw[hff];exact(by decide:1<20)) n3 (by omega)
 rw[h4,spec_end (Nat.le_refl _),g3.f]
 show Q.f++[dg 20 (y.p+(k+1))]=_
 rw[hff]
 rfl
end Go.Proofs.YtalgjkpkkdljaaaGreatDoor
namespace Go.Proofs.YtalgjkpkkdljaaaGreatDoor
open Go.Vs
def enF(ts:List Tok)(i:Nat):List Nat×Int:=(ts.take i).foldl enT ([0],0)
def enS(ts:List Tok)(st:List Nat×Int)(i:Nat):St:=⟨[(0,.p (.slice 3 (ts.map Tok.pd))),(3,.tsl 0 3 1 (st.1.map iPD)),(4,.p (.int .i64 st.2)),(5,.p (.int .i64 i))],⟨[],[st.1.length]⟩⟩
theorem enF_succ{ts:List Tok}{i:Nat}(h:i<ts.length):enF ts (i+1)=enT (enF ts i) ts[i]:=by
 unfold enF
 rw[List.take_add_one,List.getElem?_eq_getElem h,List.foldl_append]
 rfl
theorem enT_bd(st:List Nat×Int)(x:Tok){n:Nat}(h1:st.1.length≤n+1)(h2: -(n:Int)≤st.2)(h3:st.2≤n):(enT st x).1.length≤n+2∧-((n:Int)+1)≤(enT st x).2∧(enT st x).2≤(n:Int)+1:=by
 unfold enT
 dsimp only
 have key:∀(c:Prop) [Decidable c] (l:List Nat) (v:Nat),(if c then l++[v] else l).length≤l.length+1:=by
  intro c _ l v
  split<;>simp
 refine⟨Nat.le_trans (key _ _ _) (by omega),?_,?_⟩
 ·split
  ·split<;>omega
  ·split<;>omega
 ·split
  ·split<;>omega
  ·split<;>omega
theorem enF_bd(ts:List Tok):∀i,i≤ts.length→(enF ts i).1.length≤i+1∧-(i:Int)≤(enF ts i).2∧(enF ts i).2≤i
 | 0,_=>⟨Nat.le_refl _,Int.le_refl _,Int.le_refl _⟩
 |i+1,h=>by
  obtain⟨h1,h2,h3⟩:=enF_bd ts i (by omega)
  rw[enF_succ (by omega)]
  have:=enT_bd (enF ts i) ts[i] h1 h2 h3
  refine⟨by omega,by omega,by omega⟩
theorem en_step{ts:List Tok}{i:Nat}(hn:ts.length≤1000000)(hp:∀x∈ts,x.p≤1000000)(hi:i<ts.length):evS (call pg) pg.G iterX fc31_b0 (enS ts (enF ts i) i)=some (.norm,enS ts (enF ts (i+1)) (i+1)):=by
 have hr:=row_slice 3 (ts.map Tok.pd)
 have hl:=hr.len
 rw[List.length_map] at hl
 have ha:=hr.at_ i (Tok.pd ts[i]) (by simp[hi])
 have hc:(Tok.pd ts[i]).cells=[.int .i64 ts[i].k,.str ts[i].t,.int .i64 ts[i].p]:=by simp[Tok.pd,PD.cells]
 rw[hc] at ha
 have ld1:=fun G H=>ld_c (G:=G) (H:=H) (l:=[.int .i64 ts[i].k,.str ts[i].t,.int .i64 ts[i].p]) (o:=1) (x:=.str ts[i].t) rfl rfl
 have ld2:=fun G H=>ld_c (G:=G) (H:=H) (l:=[.int .i64 ts[i].k,.str ts[i].t,.int .i64 ts[i].p]) (o:=2) (x:=.int .i64 ts[i].p) rfl rfl
 have hlt:(i:Int)<(ts.length:Int):=by omega
 have hw:=inc64 (k:=i) (by omega)
 have ek:((i+1 :Nat):Int)=(i:Int)+1:=rfl
 rw[ek] at hw
 obtain⟨b1,b2,b3⟩:=enF_bd ts i (by omega)
 have hpp:=hp ts[i] (List.getElem_mem hi)
 have hwp:=inc64 (k:=ts[i].p) (by omega)
 have ep:((ts[i].p+1 :Nat):Int)=(ts[i].p:Int)+1:=rfl
 rw[ep] at hwp
 rw[enF_succ hi]
 generalize enF ts i=st at *
 generalize ts[i]=x at *
 obtain⟨out,d⟩:=st
 simp only at b1 b2 b3
 have hroom:roomy (out.length+1) 8=true:=by simp only[roomy,Bool.and_eq_true,decide_eq_true_eq];omega
 have w1:IntKind.i64.wrap (d+1)=d+1:=wrap64 (by omega) (by omega)
 have w2:IntKind.i64.wrap (d-1)=d-1:=wrap64 (by omega) (by omega)
 have n1:∀l:List Nat,(l.map iPD).length=l.length:=fun l=>List.length_map ..
 simp only[enS,ek]
 unfold enT
 dsimp only
 by_cases h1:x.t=[123]
 ·rw[h1] at ld1 ld2 ha
  have q2:¬x.t=[125]:=by rw[h1];decide
  have q3:¬(d+1=0∧(x.t=[125]∨x.t=[59])):=by rw[h1];rintro⟨_,h⟩;revert h;decide
  rw[if_pos h1,if_neg q2,if_neg q3]
  by_cases hz:d+1=0
  ·have hz':(d+1==0)=true:=by simp[hz]
   simp[fc31_b0,evKC,evK,evGuard,put,Env.get,Env.keep,Opd.ev,D.asInt?,binD,strBin,mapO,D.ren,locD,below,Out.ren,List.map,hl,hlt,ha,ld1,hw,w1,hz']
  ·have hz':(d+1==0)=false:=by simpa using hz
   simp[fc31_b0,evKC,evK,evGuard,put,Env.get,Env.keep,Opd.ev,D.asInt?,binD,strBin,mapO,D.ren,locD,below,Out.ren,List.map,hl,hlt,ha,ld1,hw,w1,hz']
 ·have g1:(x.t==[123])=false:=by simpa using h1
  rw[if_neg h1]
  by_cases h2:x.t=[125]
  ·rw[h2] at ld1 ld2 ha
   rw[if_pos h2]
   by_cases hz:d-1=0
   ·have hz':(d-1==0)=true:=by simp[hz]
    rw[if_pos ⟨hz,.inl h2⟩]
    simp[fc31_b0,evKC,evK,evGuard,put,Env.get,Env.keep,Opd.ev,D.asInt?,binD,strBin,mapO,PD.one,PD.cells,fillE,appendD,srcD,D.elems?,D.asPD,srcH,D.ren,locD,below,Out.ren,List.map,hl,hlt,ha,ld1,ld2,hw,hroom,w2,hz',hwp,n1,iPD]
   ·have hz':(d-1==0)=false:=by simpa using hz
    rw[if_neg (fun q=>hz q.1)]
    simp[fc31_b0,evKC,evK,evGuard,put,Env.get,Env.keep,Opd.ev,D.asInt?,binD,strBin,mapO,D.ren,locD,below,Out.ren,List.map,hl,hlt,ha,ld1,hw,w2,hz']
  ·have g2:(x.t==[125])=false:=by simpa using h2
   rw[if_neg h2]
   by_cases hz:d=0
   ·have hz':(d==0)=true:=by simp[hz]
    by_cases h3:x.t=[59]
    ·rw[h3] at ld1 ld2 ha
     rw[if_pos ⟨hz,.inr h3⟩]
     simp[fc31_b0,evKC,evK,evGuard,put,Env.get,Env.keep,Opd.ev,D.asInt?,binD,strBin,mapO,PD.one,PD.cells,fillE,appendD,srcD,D.elems?,D.asPD,srcH,D.ren,locD,below,Out.ren,List.map,hl,hlt,ha,ld1,ld2,hw,hroom,hz,hwp,n1,iPD]
    ·have g3:(x.t==[59])=false:=by simpa using h3
     rw[if_neg (fun q=>by rcases q.2 with r |r;exact h2 r;exact h3 r)]
     simp[fc31_b0,evKC,evK,evGuard,put,Env.get,Env.keep,Opd.ev,D.asInt?,binD,strBin,mapO,D.ren,locD,below,Out.ren,List.map,hl,hlt,ha,ld1,hw,hz,g1,g2,g3]
   ·have hz':(d==0)=false:=by simpa using hz
    rw[if_neg (fun q=>hz q.1)]
    simp[fc31_b0,evKC,evK,evGuard,put,Env.get,Env.keep,Opd.ev,D.asInt?,binD,strBin,mapO,D.ren,locD,below,Out.ren,List.map,hl,hlt,ha,ld1,hw,hz',g1,g2]
def enP(ts:List Tok)(i:Nat):St:=enS ts (enF ts i) i
def EnQ(ts:List Tok)(s':St):Prop:=s'.hp=⟨[],[(endsL ts).length]⟩∧s'.env.get 3= .tsl 0 3 1 ((endsL ts).map iPD)
theorem enF_all(ts:List Tok):(enF ts ts.length).1=endsL ts:=by unfold enF endsL;rw[List.take_length]
theorem en_end(ts:List Tok):∃s',evS (call pg) pg.G iterX fc31_b0 (enP ts ts.length)=some (.exit 0,s')∧EnQ ts s':=by
 unfold EnQ enP enS
 have hr:=row_slice 3 (ts.map Tok.pd)
 have hl:=hr.len
 rw[List.length_map] at hl
 rw[←enF_all]
 generalize enF ts ts.length=st
 refine⟨?_,?_,?_⟩
 rotate_left
 ·simp[fc31_b0,evKC,evK,put,Env.get,Env.keep,Opd.ev,binD,mapO,D.ren,locD,below,Out.ren,List.map,hl]
  rfl
 ·exact⟨rfl,rfl⟩
theorem en_keep(ts:List Tok)(i:Nat):(enP ts i).env.keep [0,3,4,5]=(enP ts i).env:=rfl
theorem en_loop(ts:List Tok)(hn:ts.length≤1000000)(hp:∀x∈ts,x.p≤1000000):∃s',loopK (call pg) pg.G [0,3,4,5] fc31_b0 (enP ts 0)=some (.exit 0,s')∧EnQ ts s':=by
 have hst:∀i,i<ts.length→evS (call pg) pg.G iterX fc31_b0 (enP ts i)=some (.norm,enP ts (i+1)):=fun i hi=>en_step hn hp hi
 exact lp_well (keep:=[0,3,4,5]) (b:=fc31_b0) (n:=ts.length) (P:=enP ts) (o:=0) (Q:=EnQ ts) (fun _=>en_keep ..) (en_end ts) hst ts.length 0 (by omega) (by omega)
theorem en_ne(ts:List Tok):∃x r,(endsL ts).map iPD=x::r:=by
 have key:∀(l:List Tok) (st:List Nat×Int),st.1≠[]→(l.foldl enT st).1≠[]:=by
  intro l
  induction l with
  |nil=>intro st h;exact h
  |cons x l ih=>
   intro st h
   refine ih _ ?_
   have key2:∀(c:Prop) [Decidable c] (l:List Nat) (v:Nat),l≠[]→(if c then l++[v] else l)≠[]:=by
    intro c _ l v hl
    split
    ·simp
    ·exact hl
   exact key2 _ _ _ h
 have:=key ts ([0],0) (by simp)
 unfold endsL
 cases h:(ts.foldl enT ([0],0)).1 with
 |nil=>exact absurd h this
 |cons a l=>exact⟨_,_,rfl⟩
theorem en_fin(ts:List Tok)(hn:ts.length≤1000000)(hp:∀x∈ts,x.p≤1000000):finish pg.G fc31.res (evS (call pg) pg.G iterX fc31.body ⟨entry 0 [.p (.slice 3 (ts.map Tok.pd))],⟨[],[]⟩⟩)=some (.val (.tsl 0 3 1 ((endsL ts).map iPD)),⟨[],[(endsL ts).length]⟩):=by
 obtain⟨⟨env,hp2⟩,e1,hq1,hq2⟩:=en_loop ts hn hp
 simp only at hq1 hq2
 subst hq1
 simp only[enP,enS,show enF ts 0=([0],0) from rfl,Int.natCast_zero,List.map_cons,List.map_nil,List.length_cons,List.length_nil,Nat.zero_add,iPD] at e1
 generalize hE:endsL ts=E at *
 simp[fc31,evKC,evK,put,Env.keep,entry,Opd.ev,finish,evRes,evRes1,PD.one,PD.cells,fillE,D.asPD,List.map,tokD,e1,hq2,Env.get]
theorem ends_eq(ts:List Tok)(hn:ts.length≤1000000)(hp:∀x∈ts,x.p≤1000000)(H:Hp):callD (call pg) 31 [.p (.slice 3 (ts.map Tok.pd))] H=some (.val (.p (.slice 1 ((endsL ts).map iPD))),H):=by
 have hb:=en_fin ts hn hp
 obtain⟨x,r,hx⟩:=en_ne ts
 rw[hx] at hb⊢
 exact callD_any (d:=.tsl 0 3 1 (x::r)) ⟨⟨[],[(endsL ts).length]⟩,call_frz (fc:=fc31) rfl rfl rfl rfl hb (seal0 rfl)⟩ rfl rfl rfl rfl H
def badD:D:=.fsl 9 1 [.str [115,111,114,116,32,59],.str [115,111,114,116,32,97,32,98,59],.str [102,105,101,108,100,32,102,32,58,32,59],.str [102,97,99,116,32,120,32,123,32,110,111,32,125],.str [112,114,101,100,32,112,91,120,93,32,123,32,125],.str [43,32,59],.str [102,97,99,116,32,123,32,116,114,117,101,32,125],.str [102,97,99,116,32,121,32,123,32,116,114,117,101,32,116,114,117,101,32,125]]
theorem bad_at(j:Nat)(h:j<8):∃x,x∈badT∧iaddrD none 1 badD (j:Int)=some (.ro [.str x] 0):=by
 have hj:j=0∨j=1∨j=2∨j=3∨j=4∨j=5∨j=6∨j=7:=by omega
 rcases hj with rfl |rfl |rfl |rfl |rfl |rfl |rfl |rfl
 ·exact⟨_,.head _,rfl⟩
 ·exact⟨_,.tail _ (.head _),rfl⟩
 ·exact⟨_,.tail _ (.tail _ (.head _)),rfl⟩
 ·exact⟨_,.tail _ (.tail _ (.tail _ (.head _))),rfl⟩
 ·exact⟨_,.tail _ (.tail _ (.tail _ (.tail _ (.head _)))),rfl⟩
 ·exact⟨_,.tail _ (.tail _ (.tail _ (.tail _ (.tail _ (.head _))))),rfl⟩
 ·exact⟨_,.tail _ (.tail _ (.tail _ (.tail _ (.tail _ (.tail _ (.head _)))))),rfl⟩
 ·exact⟨_,.tail _ (.tail _ (.tail _ (.tail _ (.tail _ (.tail _ (.tail _ (.head _))))))),rfl⟩
theorem tmodK(i n:Nat):((i:Int)).tmod (n:Int)=((i%n:Nat):Int):=by
 rw[Int.tmod_eq_emod_of_nonneg (by omega)];rfl
theorem lexA(s:List UInt8)(H:Hp):callD (call pg) 26 [.p (.str s)] H=some (.val (Lx.lex s).d,H):=by
 by_cases h:20000<s.length
 ·rw[lex_big h]
  have :Lx.lex s=([],2,0):=by unfold Lx.lex;rw[if_pos h]
  rw[this]
  rfl
 ·exact Lx.lex_eq s (by omega) H
theorem paA(s:List UInt8)(H:Hp):callD (call pg) 14 [.p (.str s)] H=some (.val (parseD s),H):=by
 by_cases h:20000<s.length
 ·have he:(Lx.lex s).2.1≠0:=by unfold Lx.lex;rw[if_pos h];decide
  have hl:=lexA s
  have he':(((Lx.lex s).2.1 :Int)!=0)=true:=by simp[bne];exact he
  have h0:call pg 41 [.p (.str s)] ⟨[],[]⟩=some (.val (.tup [.p .nilp,.fsl 34 2 [dg (Lx.lex s).2.1 (Lx.lex s).2.2]]),⟨[],[]⟩):=by
   refine call_body (fc:=fc41) rfl rfl rfl rfl ?_
   simp only[Lx.Lexed.d,dg] at hl⊢
   simp[fc41,evKC,evK,put,Env.get,Env.keep,entry,Opd.ev,splice,binD,finish,evRes,evRes1,mapO,D.cells,D.one,PD.one,PD.cells,mkAgg,pures,fillD,fillE,D.asPD,hl,he']
  have h1:∀b0:List D,callD (call pg) 41 [.p (.str s)] ⟨[b0],[]⟩=some (.val (.tup [.p .nilp,.fsl 34 2 [dg (Lx.lex s).2.1 (Lx.lex s).2.2]]),⟨[b0],[]⟩):=fun b0=>by
   refine(callD_of (as1:=[.p (.str s)]) [] [] rfl rfl rfl rfl rfl rfl h0).trans ?_
   simp[back,firstN,mapO,Res.ren,D.ren,D.renL,putAll]
  have h1:=h1 [.p .nils,.p .nils,.p .nils,.p .nils]
  have hp:parseD s= .tup [z4,.p (.slice 2 [dg (Lx.lex s).2.1 (Lx.lex s).2.2])]:=by unfold parseD;rw[if_pos he]
  rw[hp]
  refine callD_pure (call_frz (fc:=fc14) rfl rfl rfl rfl (r:=(.val (.tup [z4,.fsl 34 2 [dg (Lx.lex s).2.1 (Lx.lex s).2.2]]),⟨[[.p .nils,.p .nils,.p .nils,.p .nils]],[]⟩)) ?_ (seal0 rfl)) rfl rfl rfl rfl
  simp only[z4] at h1⊢
  simp[fc14,evKC,evK,put,Env.get,Env.keep,entry,Opd.ev,splice,cutAt,binD,sub,finish,evRes,evRes1,mapO,D.cells,mkAgg,pures,fillD,ld_zero,st_zero,oP,h1,lenD_fsl,tokbD]
 ·exact pa_eq s (by omega) H
section
variable (s : List UInt8) (i j : Nat) (hi : i < 256) (hj : j < 256)
theorem law8_long(hs:4000<s.length):∃H',call pg 8 [.p (.str s),.p (.int .u8 i),.p (.int .u8 j)] ⟨[],[]⟩=some (.val (.p (.bool true)),H'):=by
 have hhead:=head13_call
 have h1:(4000 :Int)<(s.length:Int):=by omega
 obtain⟨AD,x0,x1,x2,x3,d,X⟩:=pa_x s
 have hpa:=fun H=>paA s H
 rw[X.eq] at hpa
 have hst0:=X.st []
 simp only[List.nil_append,List.length_nil] at hst0
 by_cases hs2:20000<s.length
 ·have hlex:=fun H=>lex_big hs2 H
  exact⟨⟨[[.p x0,.p x1,.p x2,.p x3]],[]⟩,call_body (fc:=fc8) rfl rfl rfl rfl (by simp[fc8,evKC,evK,evGuard,put,Env.get,Env.keep,entry,Opd.ev,binD,finish,evRes,evRes1,PD.one,lenD_str,hhead,hlex,hpa,hst0,h1])⟩
 ·have hlex:=fun H=>Lx.lex_eq s (by omega) H
  simp only[Lx.Lexed.d] at hlex
  exact⟨⟨[[.p x0,.p x1,.p x2,.p x3]],[]⟩,call_body (fc:=fc8) rfl rfl rfl rfl (by simp[fc8,evKC,evK,evGuard,put,Env.get,Env.keep,entry,Opd.ev,binD,finish,evRes,evRes1,PD.one,lenD_str,hhead,hlex,hpa,hst0,h1])⟩
theorem law8_out(hs:s.length≤4000)(hq:(Lx.lex s).2.1≠0∨(paQ s).2≠[]):∃H',call pg 8 [.p (.str s),.p (.int .u8 i),.p (.int .u8 j)] ⟨[],[]⟩=some (.val (.p (.bool true)),H'):=by
 have hhead:=head13_call
 have h1:¬(4000 :Int)<(s.length:Int):=by omega
 obtain⟨AD,x0,x1,x2,x3,d,X⟩:=pa_x s
 have hpa:=fun H=>pa_eq s (by omega) H
 rw[X.eq] at hpa
 have hst0:=X.st []
 simp only[List.nil_append,List.length_nil] at hst0
 have hlex:=fun H=>Lx.lex_eq s (by omega) H
 simp only[Lx.Lexed.d] at hlex
 have hd:=X.rd.len
 by_cases he:(Lx.lex s).2.1=0
 ·have he2:(((Lx.lex s).2.1 :Int)!=0)=false:=by simp[he]
  have hne:0<(paQ s).2.length:=List.length_pos_iff.2 (hq.resolve_left fun q=>q he)
  generalize (paQ s).2=f at *
  exact⟨⟨[[.p x0,.p x1,.p x2,.p x3]],[]⟩,call_body (fc:=fc8) rfl rfl rfl rfl (by simp[fc8,evKC,evK,evGuard,put,Env.get,Env.keep,entry,Opd.ev,binD,finish,evRes,evRes1,PD.one,lenD_str,hhead,hlex,hpa,hst0,h1,he2,hd,hne])⟩
 ·have he2:(((Lx.lex s).2.1 :Int)!=0)=true:=by simp;omega
  exact⟨⟨[[.p x0,.p x1,.p x2,.p x3]],[]⟩,call_body (fc:=fc8) rfl rfl rfl rfl (by simp[fc8,evKC,evK,evGuard,put,Env.get,Env.keep,entry,Opd.ev,binD,finish,evRes,evRes1,PD.one,lenD_str,hhead,hlex,hpa,hst0,h1,he2])⟩
theorem law8_full(hs:s.length≤4000)(h0:(paQ s).2=[])(hf:4≤(parseS s).S.length∨6≤(parseS s).F.length∨8≤(parseS s).P.length∨16≤(parseS s).A.length):∃H',call pg 8 [.p (.str s),.p (.int .u8 i),.p (.int .u8 j)] ⟨[],[]⟩=some (.val (.p (.bool true)),H'):=by
 have hhead:=head13_call
 have h1:¬(4000 :Int)<(s.length:Int):=by omega
 obtain⟨es,fs,qs⟩:=paQ_nil h0
 obtain⟨AD,x0,x1,x2,x3,d,X⟩:=pa_x s
 have hpa:=fun H=>pa_eq s (by omega) H
 rw[X.eq] at hpa
 have hst0:=X.st []
 simp only[List.nil_append,List.length_nil] at hst0
 have hlex:=fun H=>Lx.lex_eq s (by omega) H
 simp only[Lx.Lexed.d] at hlex
 have hd:=X.rd.len
 rw[h0] at hd
 have he2:(((Lx.lex s).2.1 :Int)!=0)=false:=by simp[es]
 have sp:=X.sp
 rw[qs] at sp
 have a0:=sp.S.len;have a1:=sp.F.len;have a2:=sp.P.len;have a3:=sp.A.len
 simp only[List.length_map] at a0 a1 a2 a3
 have l0:∀G tk,loadD G ⟨[[.p x0,.p x1,.p x2,.p x3]],tk⟩ none (.box 0 0)=some (.p x0):=fun _ _=>rfl
 have l1:∀G tk,loadD G ⟨[[.p x0,.p x1,.p x2,.p x3]],tk⟩ none (.box 0 1)=some (.p x1):=fun _ _=>rfl
 have l2:∀G tk,loadD G ⟨[[.p x0,.p x1,.p x2,.p x3]],tk⟩ none (.box 0 2)=some (.p x2):=fun _ _=>rfl
 have l3:∀G tk,loadD G ⟨[[.p x0,.p x1,.p x2,.p x3]],tk⟩ none (.box 0 3)=some (.p x3):=fun _ _=>rfl
 generalize (parseS s).S.length=n0 at *
 generalize (parseS s).F.length=n1 at *
 generalize (parseS s).P.length=n2 at *
 generalize (parseS s).A.length=n3 at *
 refine⟨⟨[[.p x0,.p x1,.p x2,.p x3]],[]⟩,call_body (fc:=fc8) rfl rfl rfl rfl ?_⟩
 by_cases q0:(4 :Int)≤n0
 ·simp[fc8,evKC,evK,evGuard,put,Env.get,Env.keep,entry,Opd.ev,binD,finish,evRes,evRes1,PD.one,lenD_str,hhead,hlex,hpa,hst0,h1,he2,hd,l0,a0,q0]
 ·by_cases q1:(6 :Int)≤n1
  ·simp[fc8,evKC,evK,evGuard,put,Env.get,Env.keep,entry,Opd.ev,binD,finish,evRes,evRes1,PD.one,lenD_str,hhead,hlex,hpa,hst0,h1,he2,hd,l0,l1,a0,a1,q0,q1]
  ·by_cases q2:(8 :Int)≤n2
   ·simp[fc8,evKC,evK,evGuard,put,Env.get,Env.keep,entry,Opd.ev,binD,finish,evRes,evRes1,PD.one,lenD_str,hhead,hlex,hpa,hst0,h1,he2,hd,l0,l1,l2,a0,a1,a2,q0,q1,q2]
   ·have q3:(16 :Int)≤n3:=by omega
    simp[fc8,evKC,evK,evGuard,put,Env.get,Env.keep,entry,Opd.ev,binD,finish,evRes,evRes1,PD.one,lenD_str,hhead,hlex,hpa,hst0,h1,he2,hd,l0,l1,l2,l3,a0,a1,a2,a3,q0,q1,q2,q3]
include hi hj in
theorem law8_in(hs:s.length≤4000)(h0:(paQ s).2=[])(hS:(parseS s).S.length<4)(hF:(parseS s).F.length<6)(hP:(parseS s).P.length<8)(hA:(parseS s).A.length<16):∃H',call pg 8 [.p (.str s),.p (.int .u8 i),.p (.int .u8 j)] ⟨[],[]⟩=some (.val (.p (.bool true)),H'):=by
 have hhead:=head13_call
 have h1:¬(4000 :Int)<(s.length:Int):=by omega
 obtain⟨es,fs,qs⟩:=paQ_nil h0
 obtain⟨AD,x0,x1,x2,x3,d,X⟩:=pa_x s
 have hpa:=fun H=>pa_eq s (by omega) H
 rw[X.eq] at hpa
 have hst0:=X.st []
 simp only[List.nil_append,List.length_nil] at hst0
 have hlex:=fun H=>Lx.lex_eq s (by omega) H
 simp only[Lx.Lexed.d] at hlex
 have hd:=X.rd.len
 rw[h0] at hd
 have he2:(((Lx.lex s).2.1 :Int)!=0)=false:=by simp[es]
 have sp:=X.sp
 rw[qs] at sp
 have a0:=sp.S.len;have a1:=sp.F.len;have a2:=sp.P.len;have a3:=sp.A.len
 simp only[List.length_map] at a0 a1 a2 a3
 have l0:∀G tk,loadD G ⟨[[.p x0,.p x1,.p x2,.p x3]],tk⟩ none (.box 0 0)=some (.p x0):=fun _ _=>rfl
 have l1:∀G tk,loadD G ⟨[[.p x0,.p x1,.p x2,.p x3]],tk⟩ none (.box 0 1)=some (.p x1):=fun _ _=>rfl
 have l2:∀G tk,loadD G ⟨[[.p x0,.p x1,.p x2,.p x3]],tk⟩ none (.box 0 2)=some (.p x2):=fun _ _=>rfl
 have l3:∀G tk,loadD G ⟨[[.p x0,.p x1,.p x2,.p x3]],tk⟩ none (.box 0 3)=some (.p x3):=fun _ _=>rfl
 have q0:¬(4 :Int)≤(parseS s).S.length:=by omega
 have q1:¬(6 :Int)≤(parseS s).F.length:=by omega
 have q2:¬(8 :Int)≤(parseS s).P.length:=by omega
 have q3:¬(16 :Int)≤(parseS s).A.length:=by omega
 have htk:(Lx.lex s).toks= .slice 3 ((Lx.lex s).1.map Tok.pd):=by unfold Lx.Lexed.toks;rw[if_pos es]
 rw[htk] at hlex
 have hts:=rdF_sz s [] (by omega)
 have hln:(Lx.lex s).1.length≤1000000:=by have:=Lx.lex_len s;omega
 have hpl:∀x∈(Lx.lex s).1,x.p≤1000000:=by
  have:=hts.p
  rw[rdF_ts] at this
  exact this
 have hends:=fun H=>ends_eq (Lx.lex s).1 hln hpl H
 have hel:0<(endsL (Lx.lex s).1).length:=by
  obtain⟨x,r,h⟩:=en_ne (Lx.lex s).1
  have:=congrArg List.length h
  rw[List.length_map] at this
  rw[this];simp
 obtain⟨k,hk⟩:∃k,(endsL (Lx.lex s).1)[i%(endsL (Lx.lex s).1).length]? =some k:=⟨_,List.getElem?_eq_getElem (Nat.mod_lt _ hel)⟩
 obtain⟨x,hx,hbx⟩:=bad_at (j%8) (Nat.mod_lt _ (by decide))
 obtain⟨hks,hew,p,hfl,hp1,hp2⟩:=one_fault hs es fs hS hF hP hA (List.mem_of_getElem? hk) hx
 have hx1:x.length≤100:=by
  have :∀x∈badT,x.length≤100:=by decide
  exact this x hx
 have hwl:(insT s k x).length≤5000:=by
  simp only[insT,List.length_append,List.length_cons,List.length_take,List.length_drop];omega
 obtain⟨AF,z0,z1,z2,z3,d2,Z⟩:=pa_x (insT s k x)
 have hpc:=fun H=>pa_eq (insT s k x) (by omega) H
 rw[Z.eq] at hpc
 have hst1:=Z.st [[.p x0,.p x1,.p x2,.p x3]]
 simp only[List.cons_append,List.nil_append,List.length_cons,List.length_nil,Nat.zero_add] at hst1
 have hqw:(paQ (insT s k x)).2=[dg 20 p]:=by
  unfold paQ
  rw[if_neg (fun q=>q hew),if_neg (fun q=>by rw[hfl] at q;cases q),hfl]
 have hr:=Z.rd
 rw[hqw] at hr
 have hdl:=hr.len
 have hda:=hr.at_ 0 _ rfl
 simp only[Int.natCast_zero] at hda
 have hcc:(dg 20 p).cells=[.int .i64 20,.int .i64 p]:=by simp[dg,PD.cells]
 rw[hcc] at hda
 have ld0:∀G H,loadD G H none (.ro [.int .i64 20,.int .i64 p] 0)=some (.p (.int .i64 20)):=fun _ _=>rfl
 have ld1:∀G H,loadD G H none (.ro [.int .i64 20,.int .i64 p] 1)=some (.p (.int .i64 p)):=fun _ _=>rfl
 have lx:∀G H,loadD G H none (.ro [.str x] 0)=some (.p (.str x)):=fun _ _=>rfl
 have lk:∀G H,loadD G H none (.ro [.int .i64 k] 0)=some (.p (.int .i64 k)):=fun _ _=>rfl
 have her:=row_slice 1 ((endsL (Lx.lex s).1).map iPD)
 have hen:=her.len
 rw[List.length_map] at hen
 have hea:=her.at_ (i%(endsL (Lx.lex s).1).length) (iPD k) (by rw[List.getElem?_map,hk];rfl)
 have hce:(iPD k).cells=[.int .i64 k]:=by simp[iPD,PD.cells]
 rw[hce] at hea
 have c1:IntKind.i64.wrap (i:Int)=i:=wrap64 (by omega) (by omega)
 have c2:IntKind.i64.wrap (j:Int)=j:=wrap64 (by omega) (by omega)
 have m1:=tmodK i (endsL (Lx.lex s).1).length
 have m2:((j:Int)).tmod 8=((j%8 :Nat):Int):=tmodK j 8
 have z1':¬((endsL (Lx.lex s).1).length=0):=by omega
 have k0:¬((k:Int)<0):=by omega
 have k1:¬((s.length:Int)<(k:Int)):=by omega
 have s1:sliceD 0 (.p (.str s)) none (some (.p (.int .i64 k)))=some (.p (.str (s.take k))):=by
  simp[sliceD,boundsD,D.asNat?,hks,sub]
 have s2:sliceD 0 (.p (.str s)) (some (.p (.int .i64 k))) none=some (.p (.str (s.drop k))):=by
  simp[sliceD,boundsD,D.asNat?,hks,sub]
 have htl:(s.take k).length=k:=by rw[List.length_take];omega
 have hdl2:(s.drop k).length=s.length-k:=List.length_drop ..
 have b1:k+1≤140737488355328:=by omega
 have b2:k+1+x.length≤140737488355328:=by omega
 have b3:k+1+x.length+1≤140737488355328:=by omega
 have b4:k+1+x.length+1+(s.length-k)≤140737488355328:=by omega
 have b5:k+(x.length+1)≤140737488355327:=by omega
 have b6:k+(x.length+1+1)+(s.length-k)≤140737488355328:=by omega
 have b7:k+(x.length+1+(s.length-k))≤140737488355327:=by omega
 have hpk:(k:Int)<(p:Int):=by omega
 have wk:IntKind.i64.wrap ((k:Int)+(x.length:Int))=(k:Int)+(x.length:Int):=wrap64 (by omega) (by omega)
 have hpx:(p:Int)≤(k:Int)+(x.length:Int):=by omega
 have hins:insT s k x=s.take k++10::(x++10::s.drop k):=rfl
 rw[hins] at hpc
 simp only[badD] at hbx
 generalize j%8=jj at *
 generalize i%(endsL (Lx.lex s).1).length=ii at *
 generalize s.take k=u at *
 generalize s.drop k=v at *
 generalize (endsL (Lx.lex s).1).map iPD=E at *
 generalize (endsL (Lx.lex s).1).length=en at *
 generalize (Lx.lex s).1.map Tok.pd=TS at *
 refine⟨⟨[[.p x0,.p x1,.p x2,.p x3],[.p z0,.p z1,.p z2,.p z3]],[]⟩,call_body (fc:=fc8) rfl rfl rfl rfl ?_⟩
 simp[fc8,evKC,evK,evGuard,put,Env.get,Env.keep,entry,Opd.ev,D.asInt?,binD,strBin,clsP,cls,clsR,isCl,isW,apartRW,offB,apartWW,clash,insOk,finish,evRes,evRes1,PD.one,PD.cells,D.refsL,D.refs,D.toksL,D.toks,fillE,D.asPD,lenD_str,lenD_fsl,hhead,hlex,hpa,hst0,h1,he2,hd,l0,l1,l2,l3,a0,a1,a2,a3,q0,q1,q2,q3,hends,hen,c1,c2,m1,m2,hbx,lx,z1',hea,lk,k0,k1,s1,s2,htl,hdl2,b1,b2,b5,b6,hpc,hst1,hdl,hda,ld0,ld1,hpk,wk,hpx]
include hi hj in
theorem law8:∃H',call pg 8 [.p (.str s),.p (.int .u8 i),.p (.int .u8 j)] ⟨[],[]⟩=some (.val (.p (.bool true)),H'):=by
 by_cases hs:s.length≤4000
 ·by_cases he:(Lx.lex s).2.1=0
  ·by_cases h0:(paQ s).2=[]
   ·by_cases hf:4≤(parseS s).S.length∨6≤(parseS s).F.length∨8≤(parseS s).P.length∨16≤(parseS s).A.length
    ·exact law8_full s i j hs h0 hf
    ·exact law8_in s i j hi hj hs h0 (by omega) (by omega) (by omega) (by omega)
   ·exact law8_out s i j hs (.inr h0)
  ·exact law8_out s i j hs (.inl he)
 ·exact law8_long s i j (by omega)
end
end Go.Proofs.YtalgjkpkkdljaaaGreatDoor
namespace Go.Proofs.YtalgjkpkkdljaaaGreatDoor
open Go.Vs Go.ChangeShapes Go.WideShapes Go.RowKit
theorem u8_nat8{n:Int}(w:(Lit.int .u8 n).wf=true):∃k:Nat,n=(k:Int)∧k<256:=by
 have h:0≤n∧n≤255:=by
  simp[Lit.wf,IntKind.min,IntKind.max,IntKind.bits,IntKind.signed] at w
  omega
 obtain⟨k,rfl⟩:=Int.eq_ofNat_of_zero_le h.1
 exact⟨k,rfl,by omega⟩
theorem law8w(s:List UInt8)(n:Int)(w:(Lit.int .u8 n).wf=true)(m:Int)(v:(Lit.int .u8 m).wf=true):∃H',call pg 8 [.p (.str s),.p (.int .u8 n),.p (.int .u8 m)] ⟨[],[]⟩=some (.val (.p (.bool true)),H'):=by
 obtain⟨i,rfl,hi⟩:=u8_nat8 w
 obtain⟨k,rfl,hk⟩:=u8_nat8 v
 exact law8 s i k hi hk
end Go.Proofs.YtalgjkpkkdljaaaGreatDoor
