/-
  A value-level evaluator for Go functions; the functions of this cut by it; plain laws. Part 6 of 6.
-/
import Derived.Test.YtalgjkpkkdljaaaDoorG5
import Derived.Test.YtalgjkpkkdljaaaDoorG4
import Derived.KernelRfl
namespace Go.Proofs.YtalgjkpkkdljaaaDoor
open Go.Vs
theorem txt_short{a:Nd}(h:Ps.validN a=true)(fin:Bool):(txt a fin).length≤16000:=by
 have h1:=Ps.txt_len 24 a (Ps.valid_wf h) fin
 have h2:=Ps.valid_size h
 omega
theorem own_n{a:Nd}(h:Ps.ownN a=true):(a.op=2→1≤a.n∧a.n≤3)∧(a.op=20→-64≤a.n∧a.n≤64):=by
 unfold Ps.ownN Ps.ownB Ps.nmd at h
 refine⟨fun ho=>?_,fun ho=>?_⟩
 ·rw[ho] at h
  simp at h
  exact h.2
 ·rw[ho] at h
  simp at h
  exact h.2
theorem look_bin_of{op:Int}{e:Ent}(he:look binT op=some e):symR op≠[]∧0≤op∧op<64:=by
 obtain⟨hm,hke⟩:=look_mem he
 have hok:=List.all_eq_true.1 bin_all e hm
 unfold binOk at hok
 rw[hke] at hok
 simp only[Bool.and_eq_true,decide_eq_true_eq] at hok
 obtain⟨_,_,_,h,_,k0,k64,_⟩:=hok
 exact⟨by simpa using h,k0,k64⟩
theorem text_r:∀(s:Nat) (a:Nd),a.size≤s→Ps.validN a=true→TextOk a:=by
 intro s
 induction s with
 |zero=>intro a h;have:=size_eq a;omega
 |succ s ih=>
  intro a hs hv fin H
  obtain⟨o0,o52,hcase⟩:=valid_op hv
  have hkid:∀x∈a.ks,Ps.validN x=true∧TextOk x:=fun x hx=>by
   have hvx:=Ps.valid_kid hv hx
   exact⟨hvx,ih x (by have:=size_kid hx;omega) hvx⟩
  have hopr:∀x∈a.ks,∀(need:Int) (f:Bool) (H:Hp),callD (call pg) 72 [.p x.pd,.p (.int .i64 need),.p (.bool f)] H=some (.val (.p (.str (oprK x.kt need f))),H):=fun x hx need f H=>by
   obtain⟨h1,h2⟩:=hkid x hx
   obtain⟨p0,p52,_⟩:=valid_op h1
   exact operand_r (by omega) (by omega) h2 need f (fun g=>by have:=txt_short h1 g;omega) H
  have hol:∀x∈a.ks,∀(need:Int) (f:Bool),(oprK x.kt need f).length≤100002:=fun x hx need f=>oprK_len x need f fun g=>by have:=txt_short (hkid x hx).1 g;omega
  have hta:=txt_short hv fin
  obtain⟨hks,hown,_,_⟩:=Ps.valid_parts hv
  have hon:=own_n hown
  have htx:txt a fin=txtOf a.op a.nm a.n (a.ks.map Nd.kt) fin:=by rw[txt_eq]
  rw[htx] at hta⊢
  cases hb:look binT a.op with
  |some e=>
   rw[hb] at hcase
   have hk:2≤a.ks.length:=by dsimp only at hcase;omega
   have e1:txtOf a.op a.nm a.n (a.ks.map Nd.kt) fin=oprK (a.ks[0]).kt e.a false++(e.s++oprK (a.ks[1]).kt e.b fin):=by
    unfold txtOf
    rw[hb]
    dsimp only
    rw[kid_at (by omega),kid_at (by omega)]
   rw[e1]
   have m0:=List.getElem_mem (l:=a.ks) (n:=0) (by omega)
   have m1:=List.getElem_mem (l:=a.ks) (n:=1) (by omega)
   have l0:=hol _ m0 e.a false
   have l1:=hol _ m1 e.b fin
   obtain⟨q1,q2,q3⟩:=look_bin_of hb
   exact text_bin hb q1 q2 q3 fin (fun H=>binary_r hb fin hk ⟨by omega,by omega⟩ (hopr _ m0 e.a false) (hopr _ m1 e.b fin) H) H
  |none=>
   rw[hb] at hcase
   dsimp only at hcase
   cases hp:look preT a.op with
   |some e=>
    rw[hp] at hcase
    have hk:1≤a.ks.length:=by dsimp only at hcase;omega
    have e1:txtOf a.op a.nm a.n (a.ks.map Nd.kt) fin=e.s++oprK (a.ks[0]).kt e.a fin:=by
     unfold txtOf
     rw[hb,hp]
     dsimp only
     rw[kid_at (by omega)]
    rw[e1]
    have m0:=List.getElem_mem (l:=a.ks) (n:=0) (by omega)
    have l0:=hol _ m0 e.a fin
    exact text_pre hb hp hk fin (by omega) (hopr _ m0 e.a fin) H
   |none=>
    rw[hp] at hcase
    dsimp only at hcase
    have e0:txtOf a.op a.nm a.n (a.ks.map Nd.kt) fin=(if a.op=1 then a.nm
     else if a.op=2 then[110,111,110,101]++(if a.n=1 then[] else[91]++(Lib.itoa a.n++[93]))
     else if a.op=20 then Lib.itoa a.n
     else if a.op=5 then oprK (kK (a.ks.map Nd.kt) 0) 14 false++[39]
     else if a.op=45 then[97,108,108,32]++bndT a.nm (a.ks.map Nd.kt)
     else if a.op=46 then[115,111,109,101,32]++bndT a.nm (a.ks.map Nd.kt)
     else if a.op=15 then[123]++(bndT a.nm (a.ks.map Nd.kt)++[125])
     else if a.op=47 then a.nm++([91]++(joinL [44,32] ((a.ks.map Nd.kt).map fun k=>oprK k 8 true)++[93]))
     else constT a.op):=by
     unfold txtOf
     rw[hb,hp]
    rw[e0] at hta⊢
    rcases hcase with h47 |hc |⟨h5,hk⟩ |⟨hq,hk⟩
    ·rw[if_neg (by omega),if_neg (by omega),if_neg (by omega),if_neg (by omega),if_neg (by omega),if_neg (by omega),if_neg (by omega),if_pos h47] at hta⊢
     rw[←argR_join] at hta⊢
     simp only[List.length_append] at hta
     exact text_call h47 fin hks (by omega) (fun x hx H=>hopr x hx 8 true H) H
    ·simp only[List.mem_cons,List.not_mem_nil,or_false] at hc
     rcases hc with h |h |h |h |h |h |h
     ·rw[if_pos h];exact text_name h fin H
     ·rw[if_neg (by omega),if_pos h];exact text_none h (hon.1 h) fin H
     ·have:=text_const (a:=a) (by rw[h];simp) fin H
      rw[h] at this⊢;exact this
     ·have:=text_const (a:=a) (by rw[h];simp) fin H
      rw[h] at this⊢;exact this
     ·have:=hon.2 h
      rw[if_neg (by omega),if_neg (by omega),if_pos h];exact text_lit h ⟨by omega,by omega⟩ fin H
     ·have:=text_const (a:=a) (by rw[h];simp) fin H
      rw[h] at this⊢;exact this
     ·have:=text_const (a:=a) (by rw[h];simp) fin H
      rw[h] at this⊢;exact this
    ·rw[if_neg (by omega),if_neg (by omega),if_neg (by omega),if_pos h5] at⊢
     rw[kid_at (by omega)]
     have m0:=List.getElem_mem (l:=a.ks) (n:=0) (by omega)
     have l0:=hol _ m0 14 false
     exact text_prime h5 (by omega) fin (by omega) (hopr _ m0 14 false) H
    ·have m0:=List.getElem_mem (l:=a.ks) (n:=0) (by omega)
     have m1:=List.getElem_mem (l:=a.ks) (n:=1) (by omega)
     have l0:=hol _ m0 8 true
     have l1:=txt_short (hkid _ m1).1 true
     have eb:bndT a.nm (a.ks.map Nd.kt)=a.nm++(([58,32]:List UInt8)++(oprK (a.ks[0]).kt 8 true++(([32,124,32]:List UInt8)++txt (a.ks[1]) true))):=by
      unfold bndT
      rw[kid_at (by omega),kid_at (by omega)]
      rfl
     have hq':=hq
     simp only[List.mem_cons,List.not_mem_nil,or_false] at hq'
     have hbl:(bndT a.nm (a.ks.map Nd.kt)).length≤16000:=by
      rcases hq' with h |h |h
      ·rw[if_neg (by omega),if_neg (by omega),if_neg (by omega),if_neg (by omega),if_neg (by omega),if_neg (by omega),if_pos h] at hta
       simp only[List.length_append,List.length_cons,List.length_nil] at hta;omega
      ·rw[if_neg (by omega),if_neg (by omega),if_neg (by omega),if_neg (by omega),if_pos h] at hta
       simp only[List.length_append,List.length_cons,List.length_nil] at hta;omega
      ·rw[if_neg (by omega),if_neg (by omega),if_neg (by omega),if_neg (by omega),if_neg (by omega),if_pos h] at hta
       simp only[List.length_append,List.length_cons,List.length_nil] at hta;omega
     have hnl:a.nm.length≤16000:=by
      have:=congrArg List.length eb
      simp only[List.length_append] at this
      omega
     have hbd:=fun H=>bound_r (a:=a) (by omega) (s0:=oprK (a.ks[0]).kt 8 true) (s1:=txt (a.ks[1]) true) ⟨by omega,by omega,by omega⟩ (hopr _ m0 8 true) (fun H=>(hkid _ m1).2 true H) H
     rw[←eb] at hbd
     have:=text_bnd hq fin (by omega) hbd H
     rw[if_neg (by omega),if_neg (by omega),if_neg (by omega),if_neg (by omega)]
     rcases hq' with h |h |h
     ·rw[if_neg (by omega),if_neg (by omega)] at this
      rw[if_neg (by omega),if_neg (by omega),if_pos h];exact this
     ·rw[if_pos h] at this
      rw[if_pos h];exact this
     ·rw[if_neg (by omega),if_pos h] at this
      rw[if_neg (by omega),if_pos h];exact this
theorem formula_r{a:Nd}(hv:Ps.validN a=true)(H:Hp):callD (call pg) 15 [.p a.pd] H=some (.val (.p (.str (txt a true))),H):=by
 have o1:=one_of (pd_one a)
 have ht:=text_r a.size a (Nat.le_refl _) hv true
 have lnd:=lnd_a a
 have hc:call pg 15 [.p a.pd] ⟨[],[]⟩=some (.val (.p (.str (txt a true))),⟨[a.cells.map .p],[]⟩):=by
  refine call_body (fc:=fc15) rfl rfl rfl rfl ?_
  rw[pd_cells a] at lnd ht⊢
  simp[fc15,evKC,evK,put,Env.get,Env.keep,entry,Opd.ev,finish,evRes,evRes1,D.cells,o1,lnd,ht]
 exact callD_any ⟨_,hc⟩ rfl rfl rfl rfl H
def rqH(m n:Nd):Hp:=⟨[m.cells.map .p,n.cells.map .p],[]⟩
def rqS(m n:Nd)(k:Nat):St:=⟨[(2,.box 0 0),(3,.box 1 0),(5,.p (.int .i64 k))],rqH m n⟩
theorem ld_k0(m n:Nd)(G:Nat→Option (List PD)):loadD G (rqH m n) none (.box 0 3)=some (.p m.kidsP):=rfl
theorem ld_k1(m n:Nd)(G:Nat→Option (List PD)):loadD G (rqH m n) none (.box 1 3)=some (.p n.kidsP):=rfl
@[simp] theorem rqH_len(m n:Nd):(rqH m n).bx.length=2:=rfl
@[simp] theorem rqH_tk(m n:Nd):(rqH m n).tk=[]:=rfl
@[simp] theorem rqH_ren(m n:Nd):mapO (D.renL (below 2) (below 0)) (rqH m n).bx=some (rqH m n).bx:=by
 simp[rqH,mapO]
@[simp] theorem rqH_take(m n:Nd):List.take 2 (rqH m n).bx=(rqH m n).bx:=rfl
@[simp] theorem rqH_eta(m n:Nd):(⟨(rqH m n).bx,[]⟩:Hp)=rqH m n:=rfl
theorem rq_step{m n:Nd}{k:Nat}(hk:k<m.ks.length)(hk':k<n.ks.length)(hlen:m.ks.length≤1000000000){b:Bool}(hc:∀H,callD (call pg) 10 [.p (m.ks[k]).pd,.p (n.ks[k]).pd] H=some (.val (.p (.bool b)),H)):
    evS (call pg) pg.G iterX fc10_b0 (rqS m n k)=some (if b then(.norm,rqS m n (k+1)) else(.ret,⟨[(4,.p (.bool false))],rqH m n⟩)):=by
 have hlk:=len_kids m
 have hlt:(k:Int)<(m.ks.length:Int):=by omega
 have i0:=ia_kids hk
 have i1:=ia_kids hk'
 have l0:=fun G H=>load_nd (G:=G) (H:=H) m.ks[k]
 have l1:=fun G H=>load_nd (G:=G) (H:=H) n.ks[k]
 have hk1:=inc64 (k:=k) (by omega)
 have d0:=ld_k0 m n
 have d1:=ld_k1 m n
 generalize m.ks[k]=x at *
 generalize n.ks[k]=y at *
 cases b<;>simp[fc10_b0,rqS,evKC,evK,put,Env.get,Env.keep,Opd.ev,D.asInt?,binD,unD,clsP,cls,clsR,isCl,isW,apartRW,offB,apartWW,clash,insOk,D.refsL,D.refs,D.toksL,D.toks,D.ren,locD,below,Out.ren,List.map,d0,d1,hlk,hlt,i0,i1,l0,l1,hc,hk1]
theorem rq_end(m n:Nd):∃env,evS (call pg) pg.G iterX fc10_b0 (rqS m n m.ks.length)=some (.exit 0,⟨env,rqH m n⟩):=by
 have hlk:=len_kids m
 have d0:=ld_k0 m n
 apply Exists.intro
 simp[fc10_b0,rqS,evKC,evK,put,Env.get,Env.keep,Opd.ev,binD,D.ren,locD,below,Out.ren,List.map,d0,hlk]
 rfl
theorem rq_loop{m n:Nd}(hln:m.ks.length=n.ks.length)(hlen:m.ks.length≤1000000000)(ih:∀x∈m.ks,∀(y:Nd),∀H,callD (call pg) 10 [.p x.pd,.p y.pd] H=some (.val (.p (.bool (eqN x y))),H)):∀(j k:Nat),m.ks.length-k≤j→k≤m.ks.length→
    ∃env,loopK (call pg) pg.G [2,3,5] fc10_b0 (rqS m n k)=some (if eqAll eqN (m.ks.drop k) (n.ks.drop k) then(.exit 0,⟨env,rqH m n⟩) else(.ret,⟨[(4,.p (.bool false))],rqH m n⟩)):=by
 have fin:∀k,k=m.ks.length→∃env,loopK (call pg) pg.G [2,3,5] fc10_b0 (rqS m n k)=some (if eqAll eqN (m.ks.drop k) (n.ks.drop k) then(.exit 0,⟨env,rqH m n⟩) else(.ret,⟨[(4,.p (.bool false))],rqH m n⟩)):=by
  intro k hk
  subst hk
  obtain⟨env,e⟩:=rq_end m n
  refine⟨env,?_⟩
  rw[List.drop_eq_nil_of_le (Nat.le_refl _),List.drop_eq_nil_of_le (by omega)]
  exact loopK_out e (by simp)
 intro j
 induction j with
 |zero=>exact fun k hn hk=>fin k (by omega)
 |succ j IH=>
  intro k hn hk
  by_cases hq:k=m.ks.length
  ·exact fin k hq
  ·have hlt:k<m.ks.length:=by omega
   have hlt':k<n.ks.length:=by omega
   have hc:=ih _ (List.getElem_mem hlt) n.ks[k]
   rw[eqAll_drop hlt hlt']
   have hs:=rq_step hlt hlt' hlen hc
   cases hb:eqN m.ks[k] n.ks[k] with
   |true=>
    rw[hb] at hs
    obtain⟨env,e⟩:=IH (k+1) (by omega) (by omega)
    exact⟨env,by rw[Bool.true_and,←e];exact loopK_norm hs⟩
   |false=>
    rw[hb] at hs
    exact⟨[],loopK_out hs (by simp)⟩
theorem requal_eq:∀(s:Nat) (m n:Nd),m.size≤s→s≤1000000000→∀H,callD (call pg) 10 [.p m.pd,.p n.pd] H=some (.val (.p (.bool (eqN m n))),H):=by
 intro s
 induction s with
 |zero=>
  intro m n h
  have:=size_eq m
  omega
 |succ s ih=>
  intro m n hs hb H
  have hsz:=size_eq m
  have hlen:m.ks.length≤1000000000:=by have:=len_sizeL m.ks;omega
  have e:=eqN_eq m n
  have hlm:=len_kids m
  have hlk:=len_kids n
  have o1:=one_of (pd_one m)
  have o2:=one_of (pd_one n)
  have c0:∀G,loadD G (rqH m n) none (.box 0 0)=some (.p (.int .i64 m.op)):=fun _=>rfl
  have c1:∀G,loadD G (rqH m n) none (.box 0 1)=some (.p (.str m.nm)):=fun _=>rfl
  have c2:∀G,loadD G (rqH m n) none (.box 0 2)=some (.p (.int .i64 m.n)):=fun _=>rfl
  have e0:∀G,loadD G (rqH m n) none (.box 1 0)=some (.p (.int .i64 n.op)):=fun _=>rfl
  have e1:∀G,loadD G (rqH m n) none (.box 1 1)=some (.p (.str n.nm)):=fun _=>rfl
  have e2:∀G,loadD G (rqH m n) none (.box 1 2)=some (.p (.int .i64 n.n)):=fun _=>rfl
  have d0:=ld_k0 m n
  have d1:=ld_k1 m n
  refine callD_any (d:=.p (.bool (eqN m n))) ⟨rqH m n,call_body (fc:=fc10) rfl rfl rfl rfl ?_⟩ rfl rfl rfl rfl H
  rw[pd_cells m,pd_cells n]
  have hh:(⟨[m.cells.map .p]++[n.cells.map .p],[]⟩:Hp)=rqH m n:=rfl
  simp only[List.cons_append,List.nil_append] at hh
  cases h1:(m.op==n.op) with
  |false=>
   rw[h1] at e
   simp[fc10,evKC,evK,evGuard,put,Env.get,Env.keep,entry,Opd.ev,binD,finish,evRes,evRes1,D.cells,o1,o2,hh,c0,e0,h1,bne,e]
  |true=>
   cases h2:(m.nm==n.nm) with
   |false=>
    rw[h1,h2] at e
    simp[fc10,evKC,evK,evGuard,put,Env.get,Env.keep,entry,Opd.ev,binD,strBin,finish,evRes,evRes1,D.cells,o1,o2,hh,c0,c1,e0,e1,h1,h2,bne,e]
   |true=>
    cases h3:(m.n==n.n) with
    |false=>
     rw[h1,h2,h3] at e
     simp[fc10,evKC,evK,evGuard,put,Env.get,Env.keep,entry,Opd.ev,binD,strBin,finish,evRes,evRes1,D.cells,o1,o2,hh,c0,c1,c2,e0,e1,e2,h1,h2,h3,bne,e]
    |true=>
     rw[h1,h2,h3] at e
     by_cases hln:m.ks.length=n.ks.length
     ·obtain⟨env,hl⟩:=rq_loop hln hlen (fun x hx y=>ih x y (by have:=size_kid hx;omega) (by omega)) m.ks.length 0 (by omega) (by omega)
      simp only[List.drop_zero] at hl
      simp only[rqS,Int.natCast_zero] at hl
      cases hE:eqAll eqN m.ks n.ks<;>rw[hE] at hl e<;>
       simp[fc10,evKC,evK,evGuard,put,Env.get,Env.keep,entry,Opd.ev,binD,strBin,finish,evRes,evRes1,D.cells,o1,o2,hh,c0,c1,c2,e0,e1,e2,d0,d1,h1,h2,h3,bne,e,hlm,hlk,hln,hl]
     ·have hE:eqAll eqN m.ks n.ks=false:=by
       cases q:eqAll eqN m.ks n.ks with
       |false=>rfl
       |true=>exact absurd (eqAll_len q) hln
      rw[hE] at e
      have hln':((m.ks.length:Int)==(n.ks.length:Int))=false:=by simp;omega
      simp[fc10,evKC,evK,evGuard,put,Env.get,Env.keep,entry,Opd.ev,binD,strBin,finish,evRes,evRes1,D.cells,o1,o2,hh,c0,c1,c2,e0,e1,e2,d0,d1,h1,h2,h3,bne,e,hlm,hlk,hln']
theorem cmp_loop{α β:Type}{r:α→β→Bool}{a:List α}{b:List β}{vs:List Nat}{body:SC}{S:Nat→St}{R:St}{H:Hp}{E:Env}{e:Nat}(hl:a.length=b.length)(hkp:∀k,(⟨Env.keep vs (S k).env,(S k).hp⟩:St)=S k)
    (hs:∀k (h:k<a.length) (h':k<b.length),evS (call pg) pg.G iterX body (S k)=some (if r a[k] b[k] then(.norm,S (k+1)) else(.ret,R)))
    (he:evS (call pg) pg.G iterX body (S a.length)=some (.exit e,⟨E,H⟩)):loopK (call pg) pg.G vs body (S 0)=some (if eqAll r a b then(.exit e,⟨E,H⟩) else(.ret,R)):=by
 have main:∀(j k:Nat),a.length-k≤j→k≤a.length→loopK (call pg) pg.G vs body (S k)=some (if eqAll r (a.drop k) (b.drop k) then(.exit e,⟨E,H⟩) else(.ret,R)):=by
  have fin:∀k,k=a.length→loopK (call pg) pg.G vs body (S k)=some (if eqAll r (a.drop k) (b.drop k) then(.exit e,⟨E,H⟩) else(.ret,R)):=by
   intro k hk
   subst hk
   rw[List.drop_eq_nil_of_le (Nat.le_refl _),List.drop_eq_nil_of_le (by omega)]
   exact loopK_out (by rw[hkp];exact he) (by simp)
  intro j
  induction j with
  |zero=>exact fun k hn hk=>fin k (by omega)
  |succ j IH=>
   intro k hn hk
   by_cases hq:k=a.length
   ·exact fin k hq
   ·have hlt:k<a.length:=by omega
    have hlt':k<b.length:=by omega
    rw[eqAll_drop hlt hlt']
    have hs:=hs k hlt hlt'
    cases hb:r a[k] b[k] with
    |true=>
     rw[hb] at hs
     rw[Bool.true_and,←IH (k+1) (by omega) (by omega)];exact loopK_norm (by rw[hkp];exact hs)
    |false=>
     rw[hb] at hs
     exact loopK_out (by rw[hkp];exact hs) (by simp)
 exact main a.length 0 (by omega) (by omega)
theorem rints_eq(a b:Sl Int)(hb:(els a).length≤1000000000)(H:Hp):callD (call pg) 35 [.p (intsP a),.p (intsP b)] H=some (.val (.p (.bool (eqAll rInt (els a) (els b)))),H):=by
 refine callD_any (d:=.p (.bool (eqAll rInt (els a) (els b)))) ⟨⟨[],[]⟩,call_body (fc:=fc35) rfl rfl rfl rfl ?_⟩ rfl rfl rfl rfl H
 have la:=len27 a
 have lb:=len27 b
 by_cases hl:(els a).length=(els b).length
 ·have hn:(((els a).length:Int)!=((els b).length:Int))=false:=by rw[bne_nat];simp[hl]
  have he:=cmp_loop (r:=rInt) (vs:=[0,1,5]) (body:=fc35_b0) (S:=fun k=>⟨[(0,.p (intsP a)),(1,.p (intsP b)),(5,.p (.int .i64 (k:Nat)))],⟨[],[]⟩⟩) (R:=⟨[(4,.p (.bool false))],⟨[],[]⟩⟩) (H:=⟨[],[]⟩) (E:=[(0,.p (intsP a)),(1,.p (intsP b)),(5,.p (.int .i64 (els a).length)),(14,.p (.bool false))]) (e:=0) hl (fun _=>rfl)
   (fun k h h'=>by
    have hlt':(k:Int)<((els a).length:Int):=by omega
    have ia:=ia27 h
    have ib:=ia27 h'
    have hk1:=inc64 (k:=k) (by omega)
    generalize (els a)[k]=x at *
    generalize (els b)[k]=y at *
    cases e1:rInt x y<;>have e2:=e1<;>unfold rInt at e2<;>
     simp[fc35_b0,evKC,evK,put,Env.get,Env.keep,Opd.ev,loadD,cutAt,D.asInt?,binD,clsP,cls,isW,apartRW,offB,apartWW,clash,insOk,List.map,intCells,la,hlt',ia,ib,hk1,e2,bne])
   (by simp[fc35_b0,evKC,evK,put,Env.get,Env.keep,Opd.ev,binD,List.map,la])
  simp only[Int.natCast_zero] at he
  cases ha:eqAll rInt (els a) (els b)<;>rw[ha] at he<;>simp[fc35,evKC,evK,put,Env.get,Env.keep,entry,Opd.ev,binD,finish,evRes,evRes1,la,lb,hn,he]
 ·have hn:(((els a).length:Int)!=((els b).length:Int))=true:=by rw[bne_nat];simp[hl]
  have ha:eqAll rInt (els a) (els b)=false:=by
   cases h:eqAll rInt (els a) (els b) with
   |false=>rfl
   |true=>exact absurd (eqAll_len h) hl
  simp[fc35,evKC,evK,put,Env.get,Env.keep,entry,Opd.ev,binD,finish,evRes,evRes1,la,lb,hn,ha]
theorem rprms_eq(a b:Sl Prm)(hb:(els a).length≤1000000000)(H:Hp):callD (call pg) 36 [.p (prmsP a),.p (prmsP b)] H=some (.val (.p (.bool (eqAll rPrm (els a) (els b)))),H):=by
 refine callD_any (d:=.p (.bool (eqAll rPrm (els a) (els b)))) ⟨⟨[],[]⟩,call_body (fc:=fc36) rfl rfl rfl rfl ?_⟩ rfl rfl rfl rfl H
 have la:=len29 a
 have lb:=len29 b
 by_cases hl:(els a).length=(els b).length
 ·have hn:(((els a).length:Int)!=((els b).length:Int))=false:=by rw[bne_nat];simp[hl]
  have he:=cmp_loop (r:=rPrm) (vs:=[0,1,5]) (body:=fc36_b0) (S:=fun k=>⟨[(0,.p (prmsP a)),(1,.p (prmsP b)),(5,.p (.int .i64 (k:Nat)))],⟨[],[]⟩⟩) (R:=⟨[(4,.p (.bool false))],⟨[],[]⟩⟩) (H:=⟨[],[]⟩) (E:=[(0,.p (prmsP a)),(1,.p (prmsP b)),(5,.p (.int .i64 (els a).length)),(14,.p (.bool false))]) (e:=0) hl (fun _=>rfl)
   (fun k h h'=>by
    have hlt':(k:Int)<((els a).length:Int):=by omega
    have ia:=ia29 h
    have ib:=ia29 h'
    have hk1:=inc64 (k:=k) (by omega)
    generalize (els a)[k]=x at *
    generalize (els b)[k]=y at *
    have e2:(!(x.nm==y.nm)|| !(x.s==y.s))= !rPrm x y:=by simp[rPrm]
    cases e1:rPrm x y<;>rw[e1] at e2<;>simp only[Bool.not_true,Bool.not_false] at e2<;>
     simp[fc36_b0,evKC,evK,put,Env.get,Env.keep,Opd.ev,loadD,cutAt,D.asInt?,binD,sub,eqvL,PD.eqv,clsP,cls,isW,apartRW,offB,apartWW,clash,insOk,List.map,Prm.cells,la,hlt',ia,ib,hk1,e2])
   (by simp[fc36_b0,evKC,evK,put,Env.get,Env.keep,Opd.ev,binD,List.map,la])
  simp only[Int.natCast_zero] at he
  cases ha:eqAll rPrm (els a) (els b)<;>rw[ha] at he<;>simp[fc36,evKC,evK,put,Env.get,Env.keep,entry,Opd.ev,binD,finish,evRes,evRes1,la,lb,hn,he]
 ·have hn:(((els a).length:Int)!=((els b).length:Int))=true:=by rw[bne_nat];simp[hl]
  have ha:eqAll rPrm (els a) (els b)=false:=by
   cases h:eqAll rPrm (els a) (els b) with
   |false=>rfl
   |true=>exact absurd (eqAll_len h) hl
  simp[fc36,evKC,evK,put,Env.get,Env.keep,entry,Opd.ev,binD,finish,evRes,evRes1,la,lb,hn,ha]
def spH(x y:Spc):Hp:=⟨[x.cells.map .p,y.cells.map .p],[]⟩
@[simp] theorem spH_len(m n:Spc):(spH m n).bx.length=2:=rfl
@[simp] theorem spH_tk(m n:Spc):(spH m n).tk=[]:=rfl
@[simp] theorem spH_ren(m n:Spc):mapO (D.renL (below 2) (below 0)) (spH m n).bx=some (spH m n).bx:=by
 simp[spH,mapO]
@[simp] theorem spH_take(m n:Spc):List.take 2 (spH m n).bx=(spH m n).bx:=rfl
@[simp] theorem spH_eta(m n:Spc):(⟨(spH m n).bx,[]⟩:Hp)=spH m n:=rfl
theorem sp_l(x y:Spc)(G:Nat→Option (List PD)):
    loadD G (spH x y) none (.box 0 0)=some (.p (srtsP x.s))∧loadD G (spH x y) none (.box 1 0)=some (.p (srtsP y.s))∧
    loadD G (spH x y) none (.box 0 1)=some (.p (fldsP x.f))∧loadD G (spH x y) none (.box 1 1)=some (.p (fldsP y.f))∧
    loadD G (spH x y) none (.box 0 2)=some (.p (prdsP x.p))∧loadD G (spH x y) none (.box 1 2)=some (.p (prdsP y.p))∧
    loadD G (spH x y) none (.box 0 3)=some (.p (fctsP x.q))∧loadD G (spH x y) none (.box 1 3)=some (.p (fctsP y.q)):=⟨rfl,rfl,rfl,rfl,rfl,rfl,rfl,rfl⟩
theorem rs_srt(x y:Spc)(hl:(els x.s).length=(els y.s).length)(hb:(els x.s).length≤1000000000):loopK (call pg) pg.G [2,3,5] fc12_b0 ⟨[(2,.box 0 0),(3,.box 1 0),(5,.p (.int .i64 0))],spH x y⟩=
    some (if eqAll rSrt (els x.s) (els y.s) then(.exit 0,⟨[(2,.box 0 0),(3,.box 1 0),(5,.p (.int .i64 (els x.s).length)),(51,.p (.bool false))],spH x y⟩) else(.ret,⟨[(4,.p (.bool false))],spH x y⟩)):=by
 have la:=len31 x.s
 have lx:=sp_l x y
 exact cmp_loop (r:=rSrt) (vs:=[2,3,5]) (body:=fc12_b0) (S:=fun k=>⟨[(2,.box 0 0),(3,.box 1 0),(5,.p (.int .i64 (k:Nat)))],spH x y⟩) hl (fun _=>rfl)
     (fun k h h'=>by
      have hlt':(k:Int)<((els x.s).length:Int):=by omega
      have ia:=ia31 h
      have ib:=ia31 h'
      have hk1:=inc64 (k:=k) (by omega)
      generalize (els x.s)[k]=u at *
      generalize (els y.s)[k]=v at *
      have e2:(!(u.nm==v.nm)|| !(u.o==v.o))= !rSrt u v:=by simp[rSrt]
      have m1:∀(G:Nat→Option (List PD)) H,loadD G H (some 2) (.ro u.cells 0)=some (.p (.agg u.cells)):=fun G H=>load_ro rfl
      have m2:∀(G:Nat→Option (List PD)) H,loadD G H (some 2) (.ro v.cells 0)=some (.p (.agg v.cells)):=fun G H=>load_ro rfl
      simp only[Srt.cells] at m1 m2
      cases e1:rSrt u v<;>rw[e1] at e2<;>simp only[Bool.not_true,Bool.not_false] at e2<;>
       simp[fc12_b0,evKC,evK,put,Env.get,Env.keep,Opd.ev,D.asInt?,binD,eqvL,PD.eqv,clsP,cls,clsR,isCl,isW,apartRW,offB,apartWW,clash,insOk,List.map,m1,m2,Srt.cells,lx,la,hlt',ia,ib,hk1,e2])
     (by simp[fc12_b0,evKC,evK,put,Env.get,Env.keep,Opd.ev,binD,List.map,lx,la])
theorem rs_fld(x y:Spc)(hl:(els x.f).length=(els y.f).length)(hb:(els x.f).length≤1000000000)(hi:∀f∈els x.f,(els f.l).length≤1000000000):loopK (call pg) pg.G [2,3,6] fc12_b1 ⟨[(2,.box 0 0),(3,.box 1 0),(6,.p (.int .i64 0))],spH x y⟩=
    some (if eqAll rFld (els x.f) (els y.f) then(.exit 2,⟨[(2,.box 0 0),(3,.box 1 0),(6,.p (.int .i64 (els x.f).length)),(69,.p (.bool false))],spH x y⟩) else(.ret,⟨[(4,.p (.bool false))],spH x y⟩)):=by
 have la:=len_flds x.f
 have lx:=sp_l x y
 exact cmp_loop (r:=rFld) (vs:=[2,3,6]) (body:=fc12_b1) (S:=fun k=>⟨[(2,.box 0 0),(3,.box 1 0),(6,.p (.int .i64 (k:Nat)))],spH x y⟩) hl (fun _=>rfl)
     (fun k h h'=>by
      have hlt':(k:Int)<((els x.f).length:Int):=by omega
      have ia:=ia_flds h
      have ib:=ia_flds h'
      have hk1:=inc64 (k:=k) (by omega)
      have hc:=fun H=>rints_eq (els x.f)[k].l (els y.f)[k].l (hi _ (List.getElem_mem h)) H
      generalize (els x.f)[k]=u at *
      generalize (els y.f)[k]=v at *
      have m1:∀(G:Nat→Option (List PD)) H,loadD G H none (.ro u.cells 0)=some (.p (.str u.nm))∧loadD G H none (.ro u.cells 1)=some (.p (intsP u.l))∧loadD G H none (.ro u.cells 2)=some (.p (.bool u.v)):=fun G H=>⟨rfl,rfl,rfl⟩
      have m2:∀(G:Nat→Option (List PD)) H,loadD G H none (.ro v.cells 0)=some (.p (.str v.nm))∧loadD G H none (.ro v.cells 1)=some (.p (intsP v.l))∧loadD G H none (.ro v.cells 2)=some (.p (.bool v.v)):=fun G H=>⟨rfl,rfl,rfl⟩
      cases e1:eqAll rInt (els u.l) (els v.l)<;>rw[e1] at hc<;>cases e2:(u.nm==v.nm)<;>cases e3:(u.v==v.v)<;>
       simp[fc12_b1,evKC,evK,evGuard,put,Env.get,Env.keep,Opd.ev,D.asInt?,binD,strBin,unD,clsP,cls,clsR,isCl,isW,apartRW,offB,apartWW,clash,insOk,D.refsL,D.refs,D.toksL,D.toks,eqD,D.ren,locD,below,Out.ren,List.map,m1,m2,lx,la,hlt',ia,ib,hk1,hc,rFld,e1,e2,e3,bne])
     (by simp[fc12_b1,evKC,evK,put,Env.get,Env.keep,Opd.ev,binD,D.ren,locD,below,Out.ren,List.map,lx,la])
theorem rs_prd(x y:Spc)(hl:(els x.p).length=(els y.p).length)(hb:(els x.p).length≤1000000000)(hi:∀f∈els x.p,(els f.l).length≤1000000000∧f.b.size≤1000000000):loopK (call pg) pg.G [2,3,8] fc12_b2 ⟨[(2,.box 0 0),(3,.box 1 0),(8,.p (.int .i64 0))],spH x y⟩=
    some (if eqAll rPrd (els x.p) (els y.p) then(.exit 4,⟨[(2,.box 0 0),(3,.box 1 0),(8,.p (.int .i64 (els x.p).length)),(121,.p (.bool false))],spH x y⟩) else(.ret,⟨[(4,.p (.bool false))],spH x y⟩)):=by
 have la:=len_prds x.p
 have lx:=sp_l x y
 exact cmp_loop (r:=rPrd) (vs:=[2,3,8]) (body:=fc12_b2) (S:=fun k=>⟨[(2,.box 0 0),(3,.box 1 0),(8,.p (.int .i64 (k:Nat)))],spH x y⟩) hl (fun _=>rfl)
     (fun k h h'=>by
      have hlt':(k:Int)<((els x.p).length:Int):=by omega
      have ia:=ia_prds h
      have ib:=ia_prds h'
      have hk1:=inc64 (k:=k) (by omega)
      have hc:=fun H=>rprms_eq (els x.p)[k].l (els y.p)[k].l (hi _ (List.getElem_mem h)).1 H
      have hn:=requal_eq (els x.p)[k].b.size (els x.p)[k].b (els y.p)[k].b (Nat.le_refl _) (hi _ (List.getElem_mem h)).2
      generalize (els x.p)[k]=u at *
      generalize (els y.p)[k]=v at *
      have m1:∀(G:Nat→Option (List PD)) H,loadD G H none (.ro u.cells 0)=some (.p (.str u.nm))∧loadD G H none (.ro u.cells 1)=some (.p (prmsP u.l))∧loadD G H (some 5) (.ro u.cells 2)=some (.p u.b.pd):=fun G H=>⟨rfl,rfl,by rw[pd_cells];exact ro_at (pre:=[.str u.nm,prmsP u.l]) rfl rfl⟩
      have m2:∀(G:Nat→Option (List PD)) H,loadD G H none (.ro v.cells 0)=some (.p (.str v.nm))∧loadD G H none (.ro v.cells 1)=some (.p (prmsP v.l))∧loadD G H (some 5) (.ro v.cells 2)=some (.p v.b.pd):=fun G H=>⟨rfl,rfl,by rw[pd_cells];exact ro_at (pre:=[.str v.nm,prmsP v.l]) rfl rfl⟩
      cases e1:eqAll rPrm (els u.l) (els v.l)<;>rw[e1] at hc<;>cases e3:eqN u.b v.b<;>rw[e3] at hn<;>cases e2:(u.nm==v.nm)<;>
       simp[fc12_b2,evKC,evK,evGuard,put,Env.get,Env.keep,Opd.ev,D.asInt?,binD,strBin,unD,clsP,cls,clsR,isCl,isW,apartRW,offB,apartWW,clash,insOk,D.refsL,D.refs,D.toksL,D.toks,D.ren,locD,below,Out.ren,List.map,m1,m2,lx,la,hlt',ia,ib,hk1,hc,hn,rPrd,e1,e2,e3,bne])
     (by simp[fc12_b2,evKC,evK,put,Env.get,Env.keep,Opd.ev,binD,D.ren,locD,below,Out.ren,List.map,lx,la])
theorem rs_fct(x y:Spc)(hl:(els x.q).length=(els y.q).length)(hb:(els x.q).length≤1000000000)(hi:∀f∈els x.q,f.b.size≤1000000000):loopK (call pg) pg.G [2,3,11] fc12_b3 ⟨[(2,.box 0 0),(3,.box 1 0),(11,.p (.int .i64 0))],spH x y⟩=
    some (if eqAll rFct (els x.q) (els y.q) then(.exit 6,⟨[(2,.box 0 0),(3,.box 1 0),(11,.p (.int .i64 (els x.q).length)),(175,.p (.bool false))],spH x y⟩) else(.ret,⟨[(4,.p (.bool false))],spH x y⟩)):=by
 have la:=len_fcts x.q
 have lx:=sp_l x y
 exact cmp_loop (r:=rFct) (vs:=[2,3,11]) (body:=fc12_b3) (S:=fun k=>⟨[(2,.box 0 0),(3,.box 1 0),(11,.p (.int .i64 (k:Nat)))],spH x y⟩) hl (fun _=>rfl)
     (fun k h h'=>by
      have hlt':(k:Int)<((els x.q).length:Int):=by omega
      have ia:=ia_fcts h
      have ib:=ia_fcts h'
      have hk1:=inc64 (k:=k) (by omega)
      have hn:=requal_eq (els x.q)[k].b.size (els x.q)[k].b (els y.q)[k].b (Nat.le_refl _) (hi _ (List.getElem_mem h))
      generalize (els x.q)[k]=u at *
      generalize (els y.q)[k]=v at *
      have m1:∀(G:Nat→Option (List PD)) H,loadD G H none (.ro u.cells 0)=some (.p (.str u.nm))∧loadD G H (some 5) (.ro u.cells 1)=some (.p u.b.pd):=fun G H=>⟨rfl,by rw[pd_cells];exact ro_at (pre:=[.str u.nm]) rfl rfl⟩
      have m2:∀(G:Nat→Option (List PD)) H,loadD G H none (.ro v.cells 0)=some (.p (.str v.nm))∧loadD G H (some 5) (.ro v.cells 1)=some (.p v.b.pd):=fun G H=>⟨rfl,by rw[pd_cells];exact ro_at (pre:=[.str v.nm]) rfl rfl⟩
      cases e3:eqN u.b v.b<;>rw[e3] at hn<;>cases e2:(u.nm==v.nm)<;>
       simp[fc12_b3,evKC,evK,evGuard,put,Env.get,Env.keep,Opd.ev,D.asInt?,binD,strBin,unD,clsP,cls,clsR,isCl,isW,apartRW,offB,apartWW,clash,insOk,D.refsL,D.refs,D.toksL,D.toks,D.ren,locD,below,Out.ren,List.map,m1,m2,lx,la,hlt',ia,ib,hk1,hn,rFct,e2,e3,bne])
     (by simp[fc12_b3,evKC,evK,put,Env.get,Env.keep,Opd.ev,binD,D.ren,locD,below,Out.ren,List.map,lx,la])
theorem eqAll_ne{α β:Type}{r:α→β→Bool}{a:List α}{b:List β}(h:a.length≠b.length):eqAll r a b=false:=by
 cases q:eqAll r a b with
 |false=>rfl
 |true=>exact absurd (eqAll_len q) h
theorem rspc_eq(x y:Spc)(hm:Mod x)(H:Hp):callD (call pg) 12 [.p x.pd,.p y.pd] H=some (.val (.p (.bool (rSpc x y))),H):=by
 obtain⟨b1,b2,b3,b4,c1,c2,c3⟩:=hm
 refine callD_any (d:=.p (.bool (rSpc x y))) ⟨spH x y,call_body (fc:=fc12) rfl rfl rfl rfl ?_⟩ rfl rfl rfl rfl H
 have hh:(⟨[x.cells.map .p,y.cells.map .p],[]⟩:Hp)=spH x y:=rfl
 have o1:=one_of (spc_one x)
 have o2:=one_of (spc_one y)
 have lx:=sp_l x y
 have a1:=len31 x.s;have a2:=len31 y.s
 have a3:=len_flds x.f;have a4:=len_flds y.f
 have a5:=len_prds x.p;have a6:=len_prds y.p
 have a7:=len_fcts x.q;have a8:=len_fcts y.q
 by_cases h1:(els x.s).length=(els y.s).length
 ·by_cases h2:(els x.f).length=(els y.f).length
  ·by_cases h3:(els x.p).length=(els y.p).length
   ·by_cases h4:(els x.q).length=(els y.q).length
    ·have n1:(((els x.s).length:Int)!=((els y.s).length:Int))=false:=by rw[bne_nat];simp[h1]
     have n2:(((els x.f).length:Int)!=((els y.f).length:Int))=false:=by rw[bne_nat];simp[h2]
     have n3:(((els x.p).length:Int)!=((els y.p).length:Int))=false:=by rw[bne_nat];simp[h3]
     have n4:(((els x.q).length:Int)!=((els y.q).length:Int))=false:=by rw[bne_nat];simp[h4]
     have l1:=rs_srt x y h1 (by omega)
     have l2:=rs_fld x y h2 (by omega) (fun f hf=>by have:=c1 f hf;omega)
     have l3:=rs_prd x y h3 (by omega) (fun f hf=>by have:=c2 f hf;omega)
     have l4:=rs_fct x y h4 (by omega) (fun f hf=>by have:=c3 f hf;omega)
     cases e1:eqAll rSrt (els x.s) (els y.s) with
     |false=>
      rw[e1] at l1
      simp[fc12,evKC,evK,evGuard,put,Env.get,Env.keep,entry,Opd.ev,binD,finish,evRes,evRes1,D.cells,Spc.pd,o1,o2,hh,lx,a1,a2,a3,a4,a5,a6,a7,a8,n1,n2,n3,n4,l1,rSpc,e1]
     |true=>
      rw[e1] at l1
      cases e2:eqAll rFld (els x.f) (els y.f) with
      |false=>
       rw[e2] at l2
       simp[fc12,evKC,evK,evGuard,put,Env.get,Env.keep,entry,Opd.ev,binD,finish,evRes,evRes1,D.cells,Spc.pd,o1,o2,hh,lx,a1,a2,a3,a4,a5,a6,a7,a8,n1,n2,n3,n4,l1,l2,rSpc,e1,e2]
      |true=>
       rw[e2] at l2
       cases e3:eqAll rPrd (els x.p) (els y.p) with
       |false=>
        rw[e3] at l3
        simp[fc12,evKC,evK,evGuard,put,Env.get,Env.keep,entry,Opd.ev,binD,finish,evRes,evRes1,D.cells,Spc.pd,o1,o2,hh,lx,a1,a2,a3,a4,a5,a6,a7,a8,n1,n2,n3,n4,l1,l2,l3,rSpc,e1,e2,e3]
       |true=>
        rw[e3] at l3
        cases e4:eqAll rFct (els x.q) (els y.q)<;>rw[e4] at l4<;>
         simp[fc12,evKC,evK,evGuard,put,Env.get,Env.keep,entry,Opd.ev,binD,finish,evRes,evRes1,D.cells,Spc.pd,o1,o2,hh,lx,a1,a2,a3,a4,a5,a6,a7,a8,n1,n2,n3,n4,l1,l2,l3,l4,rSpc,e1,e2,e3,e4]
    ·have n4:(((els x.q).length:Int)!=((els y.q).length:Int))=true:=by rw[bne_nat];simp[h4]
     have n1:(((els x.s).length:Int)!=((els y.s).length:Int))=false:=by rw[bne_nat];simp[h1]
     have n2:(((els x.f).length:Int)!=((els y.f).length:Int))=false:=by rw[bne_nat];simp[h2]
     have n3:(((els x.p).length:Int)!=((els y.p).length:Int))=false:=by rw[bne_nat];simp[h3]
     have e:=eqAll_ne (r:=rFct) h4
     simp[fc12,evKC,evK,evGuard,put,Env.get,Env.keep,entry,Opd.ev,binD,finish,evRes,evRes1,D.cells,Spc.pd,o1,o2,hh,lx,a1,a2,a3,a4,a5,a6,a7,a8,n1,n2,n3,n4,rSpc,e]
   ·have n1:(((els x.s).length:Int)!=((els y.s).length:Int))=false:=by rw[bne_nat];simp[h1]
    have n2:(((els x.f).length:Int)!=((els y.f).length:Int))=false:=by rw[bne_nat];simp[h2]
    have n3:(((els x.p).length:Int)!=((els y.p).length:Int))=true:=by rw[bne_nat];simp[h3]
    have e:=eqAll_ne (r:=rPrd) h3
    simp[fc12,evKC,evK,evGuard,put,Env.get,Env.keep,entry,Opd.ev,binD,finish,evRes,evRes1,D.cells,Spc.pd,o1,o2,hh,lx,a1,a2,a3,a4,a5,a6,n1,n2,n3,rSpc,e]
  ·have n1:(((els x.s).length:Int)!=((els y.s).length:Int))=false:=by rw[bne_nat];simp[h1]
   have n2:(((els x.f).length:Int)!=((els y.f).length:Int))=true:=by rw[bne_nat];simp[h2]
   have e:=eqAll_ne (r:=rFld) h2
   simp[fc12,evKC,evK,evGuard,put,Env.get,Env.keep,entry,Opd.ev,binD,finish,evRes,evRes1,D.cells,Spc.pd,o1,o2,hh,lx,a1,a2,a3,a4,n1,n2,rSpc,e]
 ·have n1:(((els x.s).length:Int)!=((els y.s).length:Int))=true:=by rw[bne_nat];simp[h1]
  have e:=eqAll_ne (r:=rSrt) h1
  simp[fc12,evKC,evK,evGuard,put,Env.get,Env.keep,entry,Opd.ev,binD,finish,evRes,evRes1,D.cells,Spc.pd,o1,o2,hh,lx,a1,a2,n1,rSpc,e]
theorem idx_loop{p:Nat→Bool}{n:Nat}{vs:List Nat}{body:SC}{S:Nat→St}{R:St}{H:Hp}{E:Env}{e:Nat}(hkp:∀k,(⟨Env.keep vs (S k).env,(S k).hp⟩:St)=S k)
    (hs:∀k,k<n→evS (call pg) pg.G iterX body (S k)=some (if p k then(.norm,S (k+1)) else(.ret,R)))
    (he:evS (call pg) pg.G iterX body (S n)=some (.exit e,⟨E,H⟩)):loopK (call pg) pg.G vs body (S 0)=some (if(List.range n).all p then(.exit e,⟨E,H⟩) else(.ret,R)):=by
 have main:∀(j k:Nat),n-k≤j→k≤n→loopK (call pg) pg.G vs body (S k)=some (if((List.range n).drop k).all p then(.exit e,⟨E,H⟩) else(.ret,R)):=by
  have fin:∀k,k=n→loopK (call pg) pg.G vs body (S k)=some (if((List.range n).drop k).all p then(.exit e,⟨E,H⟩) else(.ret,R)):=by
   intro k hk
   subst hk
   rw[List.drop_eq_nil_of_le (by simp)]
   exact loopK_out (by rw[hkp];exact he) (by simp)
  intro j
  induction j with
  |zero=>exact fun k hn hk=>fin k (by omega)
  |succ j IH=>
   intro k hn hk
   by_cases hq:k=n
   ·exact fin k hq
   ·have hlt:k<n:=by omega
    have hs:=hs k hlt
    rw[List.drop_eq_getElem_cons (by simpa using hlt),List.getElem_range,List.all_cons]
    cases hb:p k with
    |true=>
     rw[hb] at hs
     rw[Bool.true_and,←IH (k+1) (by omega) (by omega)];exact loopK_norm (by rw[hkp];exact hs)
    |false=>
     rw[hb] at hs
     exact loopK_out (by rw[hkp];exact hs) (by simp)
 have:=main n 0 (by omega) (by omega)
 rwa [List.drop_zero] at this
theorem range_all{α:Type}{p:α→Bool}:∀{l:List α} {q:Nat→Bool},(∀k (h:k<l.length),q k=p l[k])→(List.range l.length).all q=l.all p:=by
 intro l q h
 rw[Bool.eq_iff_iff,List.all_eq_true,List.all_eq_true]
 constructor
 ·intro g x hx
  obtain⟨k,hk,rfl⟩:=List.getElem_of_mem hx
  rw[←h k hk];exact g k (by simpa using hk)
 ·intro g k hk
  have hk:k<l.length:=by simpa using hk
  rw[h k hk];exact g _ (List.getElem_mem hk)
theorem all_loop{α:Type}{p:α→Bool}{a:List α}{vs:List Nat}{body:SC}{S:Nat→St}{R:St}{H:Hp}{E:Env}{e:Nat}(hkp:∀k,(⟨Env.keep vs (S k).env,(S k).hp⟩:St)=S k)
    (hs:∀k (h:k<a.length),evS (call pg) pg.G iterX body (S k)=some (if p a[k] then(.norm,S (k+1)) else(.ret,R)))
    (he:evS (call pg) pg.G iterX body (S a.length)=some (.exit e,⟨E,H⟩)):loopK (call pg) pg.G vs body (S 0)=some (if a.all p then(.exit e,⟨E,H⟩) else(.ret,R)):=by
 have hq:∀k (h:k<a.length),((a[k]?).map p).getD true=p a[k]:=fun k h=>by rw[List.getElem?_eq_getElem h];rfl
 rw[←range_all hq]
 exact idx_loop hkp (fun k h=>by rw[hq k h];exact hs k h) he
def idxOk(n:Nat)(i:Int):Bool:=decide (0≤i)&&decide (i<n)
theorem sp_at(x:Spc)(G:Nat→Option (List PD))(tk:List Nat):
    loadD G ⟨[x.cells.map .p],tk⟩ none (.box 0 0)=some (.p (srtsP x.s))∧loadD G ⟨[x.cells.map .p],tk⟩ none (.box 0 1)=some (.p (fldsP x.f))∧
    loadD G ⟨[x.cells.map .p],tk⟩ none (.box 0 2)=some (.p (prdsP x.p))∧loadD G ⟨[x.cells.map .p],tk⟩ none (.box 0 3)=some (.p (fctsP x.q))∧
    loadD G ⟨[x.cells.map .p],tk⟩ (some 4) (.box 0 0)=some (.p x.pd):=⟨rfl,rfl,rfl,rfl,load_box rfl rfl⟩
theorem ro_int(u:Int)(G:Nat→Option (List PD))(H:Hp):loadD G H none (.ro [PD.int .i64 u] 0)=some (.p (.int .i64 u)):=rfl
theorem idx0(x:Spc)(d:D)(l:List Int)(hd:lenD 1 d=some l.length)(hi:∀k (h:k<l.length),iaddrD none 1 d (k:Int)=some (.ro (intCells l[k]) 0))(hn:l.length≤1000000000):
    ∃H',call pg 45 [.p x.pd,d] ⟨[],[]⟩=some (.val (.p (.bool (l.all (idxOk (els x.s).length)))),H'):=by
 have o1:=one_of (spc_one x)
 have lx:=sp_at x
 have a1:=len31 x.s
 refine⟨_,call_body (fc:=fc45) rfl rfl rfl rfl (r:=(_,⟨[x.cells.map .p],[]⟩)) ?_⟩
 have he:=all_loop (p:=idxOk (els x.s).length) (a:=l) (vs:=[1,2,5]) (body:=fc45_b0) (S:=fun k=>⟨[(1,d),(2,.box 0 0),(5,.p (.int .i64 (k:Nat)))],⟨[x.cells.map .p],[]⟩⟩) (R:=⟨[(4,.p (.bool false))],⟨[x.cells.map .p],[]⟩⟩)
  (H:=⟨[x.cells.map .p],[]⟩) (E:=[(1,d),(2,.box 0 0),(5,.p (.int .i64 l.length)),(9,.p (.bool false))]) (e:=0) (fun _=>rfl)
  (fun k h=>by
   have hlt':(k:Int)<(l.length:Int):=by omega
   have ia:=hi k h
   have hk1:=inc64 (k:=k) (by omega)
   generalize l[k]=u at *
   by_cases h1:u<0
   ·have h2:idxOk (els x.s).length u=false:=by simp[idxOk];omega
    simp[fc45_b0,evKC,evK,evGuard,put,Env.get,Env.keep,Opd.ev,loadD,cutAt,D.asInt?,binD,clsP,cls,isW,apartRW,offB,apartWW,clash,insOk,List.map,intCells,hd,hlt',ia,h1,h2]
   ·by_cases h3:((els x.s).length:Int)≤u
    ·have h2:idxOk (els x.s).length u=false:=by simp[idxOk];omega
     simp[fc45_b0,evKC,evK,evGuard,put,Env.get,Env.keep,Opd.ev,D.asInt?,binD,clsP,cls,clsR,isCl,isW,apartRW,offB,apartWW,clash,insOk,List.map,intCells,hd,hlt',ia,h1,h2,h3,lx,a1,ro_int]
    ·have h2:idxOk (els x.s).length u=true:=by simp[idxOk];omega
     simp[fc45_b0,evKC,evK,evGuard,put,Env.get,Env.keep,Opd.ev,D.asInt?,binD,clsP,cls,clsR,isCl,isW,apartRW,offB,apartWW,clash,insOk,List.map,intCells,hd,hlt',ia,hk1,h1,h2,h3,lx,a1,ro_int])
  (by simp[fc45_b0,evKC,evK,put,Env.get,Env.keep,Opd.ev,binD,List.map,hd])
 simp only[Int.natCast_zero] at he
 cases hb:l.all (idxOk (els x.s).length)<;>rw[hb] at he<;>simp[fc45,evKC,evK,put,Env.get,Env.keep,entry,Opd.ev,finish,evRes,evRes1,D.cells,List.map,Spc.pd,o1,he]
theorem ridx_eq(x:Spc)(l:Sl Int)(hn:(els l).length≤1000000000)(H:Hp):callD (call pg) 45 [.p x.pd,.p (intsP l)] H=some (.val (.p (.bool ((els l).all (idxOk (els x.s).length)))),H):=
 callD_any (idx0 x _ (els l) (len27 l) (fun _ h=>ia27 h) hn) rfl rfl rfl rfl H
theorem ridx1_eq(x:Spc)(i:Int)(H:Hp):callD (call pg) 45 [.p x.pd,.fsl 3 1 [.int .i64 i]] H=some (.val (.p (.bool (idxOk (els x.s).length i))),H):=by
 have:=idx0 x (.fsl 3 1 [.int .i64 i]) [i] rfl (fun k h=>by
  have :k=0:=by simpa using h
  subst this;rfl) (by simp)
 have h2:[i].all (idxOk (els x.s).length)=idxOk (els x.s).length i:=by simp
 rw[h2] at this
 exact callD_any this rfl rfl rfl rfl H
theorem rfrm_eq(a:Nd)(H:Hp):callD (call pg) 46 [.p a.pd] H=some (.val (.p (.bool (Ps.frmR a))),H):=by
 have hv:=fun H=>Ps.validR_eq a H
 have hk:=fun H=>Ps.kindR_call a.op H
 have hl:=fun(G:Nat→Option (List PD))=>load_ndb (G:=G) (H:=⟨[a.cells.map .p],[]⟩) (i:=0) (x:=a) rfl
 have lop:∀G tk,loadD G ⟨[a.cells.map .p],tk⟩ none (.box 0 0)=some (.p (.int .i64 a.op)):=fun _ _=>rfl
 have he:(((Ps.kR a.op:Nat):Int)==102)=(Ps.kR a.op==102):=beq_nat _ 102
 have o1:=one_of (pd_one a)
 refine callD_any (d:=.p (.bool (Ps.frmR a))) ⟨⟨[a.cells.map .p],[]⟩,?_⟩ rfl rfl rfl rfl H
 unfold Ps.frmR
 rw[pd_cells] at hv hl⊢
 refine call_body (fc:=fc46) rfl rfl rfl rfl ?_
 cases h1:Ps.validR a<;>rw[h1] at hv<;>cases h2:(Ps.kR a.op==102)<;>rw[h2] at he<;>simp[fc46,evKC,evK,evGuard,put,Env.get,Env.keep,entry,Opd.ev,binD,finish,evRes,evRes1,D.cells,o1,hv,hk,hl,lop,he]
def prmOk(n:Nat)(p:Prm):Bool:=Ps.isNmR p.nm&&idxOk n p.s
theorem rtyped_eq(x:Spc)(l:Sl Prm)(hn:(els l).length≤1000000000)(H:Hp):callD (call pg) 47 [.p x.pd,.p (prmsP l)] H=some (.val (.p (.bool ((els l).all (prmOk (els x.s).length)))),H):=by
 have o1:=one_of (spc_one x)
 have lx:=sp_at x
 have la:=len29 l
 refine callD_any (d:=.p (.bool ((els l).all (prmOk (els x.s).length)))) ⟨⟨[x.cells.map .p],[]⟩,call_body (fc:=fc47) rfl rfl rfl rfl ?_⟩ rfl rfl rfl rfl H
 have he:=all_loop (p:=prmOk (els x.s).length) (a:=els l) (vs:=[1,2,5]) (body:=fc47_b0) (S:=fun k=>⟨[(1,.p (prmsP l)),(2,.box 0 0),(5,.p (.int .i64 (k:Nat)))],⟨[x.cells.map .p],[]⟩⟩) (R:=⟨[(4,.p (.bool false))],⟨[x.cells.map .p],[]⟩⟩)
  (H:=⟨[x.cells.map .p],[]⟩) (E:=[(1,.p (prmsP l)),(2,.box 0 0),(5,.p (.int .i64 (els l).length)),(10,.p (.bool false))]) (e:=0) (fun _=>rfl)
  (fun k h=>by
   have hlt':(k:Int)<((els l).length:Int):=by omega
   have ia:=ia29 h
   have hk1:=inc64 (k:=k) (by omega)
   generalize (els l)[k]=u at *
   have m1:∀(G:Nat→Option (List PD)) H,loadD G H none (.ro u.cells 0)=some (.p (.str u.nm))∧loadD G H none (.ro u.cells 1)=some (.p (.int .i64 u.s)):=fun G H=>⟨rfl,rfl⟩
   have hnm:=fun H=>Ps.nameR_eq u.nm H
   have hix:=fun H=>ridx1_eq x u.s H
   cases e1:Ps.isNmR u.nm<;>rw[e1] at hnm<;>cases e2:idxOk (els x.s).length u.s<;>rw[e2] at hix<;>
    simp[fc47_b0,evKC,evK,evGuard,put,Env.get,Env.keep,Opd.ev,D.asInt?,binD,unD,clsP,cls,clsR,isCl,isW,apartRW,offB,apartWW,clash,insOk,mapO,PD.cells,D.refsL,D.refs,D.toksL,D.toks,fillE,D.asPD,D.ren,locD,below,Out.ren,List.map,la,hlt',ia,hk1,m1,lx,hnm,hix,prmOk,e1,e2])
  (by simp[fc47_b0,evKC,evK,put,Env.get,Env.keep,Opd.ev,binD,mapO,D.ren,locD,below,Out.ren,List.map,la])
 simp only[Int.natCast_zero] at he
 cases hb:(els l).all (prmOk (els x.s).length)<;>rw[hb] at he<;>simp[fc47,evKC,evK,put,Env.get,Env.keep,entry,Opd.ev,finish,evRes,evRes1,D.cells,List.map,Spc.pd,o1,he]
def srtAt(l:List Srt)(i:Nat):Srt:=(l[i]?).getD ⟨[],false⟩
theorem srtAt_eq{l:List Srt}{i:Nat}(h:i<l.length):srtAt l i=l[i]:=by simp[srtAt,List.getElem?_eq_getElem h]
def nmdOk(l:List Srt)(i:Nat):Bool:=Ps.isNmR (srtAt l i).nm&&(List.range i).all fun j=>!((srtAt l i).nm==(srtAt l j).nm)
theorem srt_l0(u:Srt)(G:Nat→Option (List PD))(H:Hp):loadD G H none (.ro u.cells 0)=some (.p (.str u.nm)):=rfl
theorem rnamed_eq(x:Spc)(hn:(els x.s).length≤1000000000)(H:Hp):callD (call pg) 43 [.p x.pd] H=some (.val (.p (.bool ((List.range (els x.s).length).all (nmdOk (els x.s))))),H):=by
 have o1:=one_of (spc_one x)
 have lx:=sp_at x
 have la:=len31 x.s
 have m1:=srt_l0
 refine callD_any (d:=.p (.bool ((List.range (els x.s).length).all (nmdOk (els x.s))))) ⟨⟨[x.cells.map .p],[]⟩,call_body (fc:=fc43) rfl rfl rfl rfl ?_⟩ rfl rfl rfl rfl H
 have he:=idx_loop (p:=nmdOk (els x.s)) (n:=(els x.s).length) (vs:=[1,3]) (body:=fc43_b1) (S:=fun k=>⟨[(1,.box 0 0),(3,.p (.int .i64 (k:Nat)))],⟨[x.cells.map .p],[]⟩⟩) (R:=⟨[(2,.p (.bool false))],⟨[x.cells.map .p],[]⟩⟩)
  (H:=⟨[x.cells.map .p],[]⟩) (E:=[(1,.box 0 0),(3,.p (.int .i64 (els x.s).length)),(10,.p (.bool false))]) (e:=0) (fun _=>rfl)
  (fun k h=>by
   have hlt':(k:Int)<((els x.s).length:Int):=by omega
   have ia:=ia31 h
   have hk1:=inc64 (k:=k) (by omega)
   have inner:=idx_loop (p:=fun j=>!((srtAt (els x.s) k).nm==(srtAt (els x.s) j).nm)) (n:=k) (vs:=[1,3,5]) (body:=fc43_b0) (S:=fun j=>⟨[(1,.box 0 0),(3,.p (.int .i64 (k:Nat))),(5,.p (.int .i64 (j:Nat)))],⟨[x.cells.map .p],[]⟩⟩) (R:=⟨[(2,.p (.bool false))],⟨[x.cells.map .p],[]⟩⟩)
    (H:=⟨[x.cells.map .p],[]⟩) (E:=[(1,.box 0 0),(3,.p (.int .i64 (k:Nat))),(5,.p (.int .i64 (k:Nat))),(24,.p (.bool false))]) (e:=2) (fun _=>rfl)
    (fun j hj=>by
     have hlt2:(j:Int)<(k:Int):=by omega
     have ib:=ia31 (o:=x.s) (k:=j) (by omega)
     have hk2:=inc64 (k:=j) (by omega)
     rw[srtAt_eq h,srtAt_eq (show j<(els x.s).length by omega)]
     generalize (els x.s)[k]=u at *
     generalize (els x.s)[j]=v at *
     cases e1:(u.nm==v.nm)<;>
      simp[fc43_b0,evKC,evK,put,Env.get,Env.keep,Opd.ev,D.asInt?,binD,strBin,clsP,cls,clsR,isCl,isW,apartRW,offB,apartWW,clash,insOk,List.map,hlt2,ia,ib,hk2,lx,m1,e1])
    (by simp[fc43_b0,evKC,evK,put,Env.get,Env.keep,Opd.ev,binD,List.map])
   simp only[Int.natCast_zero] at inner
   unfold nmdOk
   rw[srtAt_eq h] at inner⊢
   generalize (els x.s)[k]=u at *
   have hnm:=fun H=>Ps.nameR_eq u.nm H
   cases e1:Ps.isNmR u.nm with
   |false=>
    rw[e1] at hnm
    simp[fc43_b1,evKC,evK,put,Env.get,Env.keep,Opd.ev,D.asInt?,binD,unD,mapO,D.ren,locD,Out.ren,List.map,hlt',la,ia,lx,m1,hnm]
   |true=>
    rw[e1] at hnm
    cases e2:(List.range k).all fun j=>!(u.nm==(srtAt (els x.s) j).nm)<;>rw[e2] at inner<;>
     simp[fc43_b1,evKC,evK,put,Env.get,Env.keep,Opd.ev,D.asInt?,binD,unD,mapO,D.ren,locD,below,Out.ren,List.map,hlt',la,ia,hk1,lx,m1,hnm,inner])
  (by simp[fc43_b1,evKC,evK,put,Env.get,Env.keep,Opd.ev,binD,mapO,D.ren,locD,below,Out.ren,List.map,la,lx])
 simp only[Int.natCast_zero] at he
 cases hb:(List.range (els x.s).length).all (nmdOk (els x.s))<;>rw[hb] at he<;>simp[fc43,evKC,evK,put,Env.get,Env.keep,entry,Opd.ev,finish,evRes,evRes1,D.cells,List.map,Spc.pd,o1,he]
def fldOk(n:Nat)(f:Fld):Bool:=(Ps.isNmR f.nm&&(els f.l).all (idxOk n))&&(decide (1≤(els f.l).length)&&decide ((els f.l).length≤3))
def prdOk(n:Nat)(f:Prd):Bool:=(Ps.isNmR f.nm&&Ps.frmR f.b)&&(els f.l).all (prmOk n)
def fctOk(f:Fct):Bool:=Ps.isNmR f.nm&&Ps.frmR f.b
def pH1(x:Spc):Hp:=⟨[x.cells.map .p],[]⟩
theorem rp_fld(x:Spc)(hb:(els x.f).length≤1000000000)(hi:∀f∈els x.f,(els f.l).length≤1000000000):loopK (call pg) pg.G [1,3] fc16_b0 ⟨[(1,.box 0 0),(3,.p (.int .i64 0))],⟨[x.cells.map .p],[]⟩⟩=
    some (if(els x.f).all (fldOk (els x.s).length) then(.exit 0,⟨[(1,.box 0 0),(3,.p (.int .i64 (els x.f).length)),(41,.p (.bool false))],⟨[x.cells.map .p],[]⟩⟩) else(.ret,⟨[(2,.p (.bool false))],⟨[x.cells.map .p],[]⟩⟩)):=by
 have o1:=one_of (spc_one x)
 have lx:=sp_at x
 have la:=len_flds x.f
 exact all_loop (p:=fldOk (els x.s).length) (a:=els x.f) (vs:=[1,3]) (body:=fc16_b0) (S:=fun k=>⟨[(1,.box 0 0),(3,.p (.int .i64 (k:Nat)))],⟨[x.cells.map .p],[]⟩⟩) (fun _=>rfl)
  (fun k h=>by
   have hlt':(k:Int)<((els x.f).length:Int):=by omega
   have ia:=ia_flds h
   have hk1:=inc64 (k:=k) (by omega)
   have hll:=hi _ (List.getElem_mem h)
   generalize (els x.f)[k]=u at *
   have o2:=one_of (fld_one u)
   have m0:∀(G:Nat→Option (List PD)) H,loadD G H (some 3) (.ro u.cells 0)=some (.p u.pd):=fun G H=>load_ro rfl
   have lx2:∀(G:Nat→Option (List PD)) tk,loadD G ⟨[x.cells.map .p,u.cells.map .p],tk⟩ (some 4) (.box 0 0)=some (.p x.pd):=fun _ _=>load_box rfl rfl
   have m1:∀(G:Nat→Option (List PD)) tk,loadD G ⟨[x.cells.map .p,u.cells.map .p],tk⟩ none (.box 1 0)=some (.p (.str u.nm))∧loadD G ⟨[x.cells.map .p,u.cells.map .p],tk⟩ none (.box 1 1)=some (.p (intsP u.l)):=fun _ _=>⟨rfl,rfl⟩
   have st:storeD ⟨[x.cells.map .p,[.p (.str []),.p .nils,.p (.bool false)]],[]⟩ 3 (.box 1 0) (.p u.pd)=some ⟨[x.cells.map .p,u.cells.map .p],[]⟩:=by
    have h3:u.cells.length=3:=rfl
    simp[storeD,Fld.pd,D.cells,splice,isMapC,o2,h3]
   have hnm:=fun H=>Ps.nameR_eq u.nm H
   have hix:=fun H=>ridx_eq x u.l hll H
   have ll:=len27 u.l
   by_cases h1:(els u.l).length<1
   ·have h1':((els u.l).length:Int)<1:=by omega
    have e0:fldOk (els x.s).length u=false:=by simp[fldOk];omega
    cases e1:Ps.isNmR u.nm<;>rw[e1] at hnm<;>cases e2:(els u.l).all (idxOk (els x.s).length)<;>rw[e2] at hix<;>
     simp[fc16_b0,evKC,evK,evGuard,put,Env.get,Env.keep,Opd.ev,D.asInt?,binD,unD,mapO,D.ren,locD,Out.ren,List.map,la,hlt',ia,m0,m1,st,lx,lx2,hnm,hix,ll,h1',e0]
   ·have h1':¬((els u.l).length:Int)<1:=by omega
    by_cases h2:3<(els u.l).length
    ·have h2':3<((els u.l).length:Int):=by omega
     have e0:fldOk (els x.s).length u=false:=by simp[fldOk];omega
     cases e1:Ps.isNmR u.nm<;>rw[e1] at hnm<;>cases e2:(els u.l).all (idxOk (els x.s).length)<;>rw[e2] at hix<;>
      simp[fc16_b0,evKC,evK,evGuard,put,Env.get,Env.keep,Opd.ev,D.asInt?,binD,unD,mapO,D.ren,locD,Out.ren,List.map,la,hlt',ia,m0,m1,st,lx,lx2,hnm,hix,ll,h1',h2',e0]
    ·have h2':¬3<((els u.l).length:Int):=by omega
     have e0:fldOk (els x.s).length u=(Ps.isNmR u.nm&&(els u.l).all (idxOk (els x.s).length)):=by
      have a1:decide (1≤(els u.l).length)=true:=by simp;omega
      have a2:decide ((els u.l).length≤3)=true:=by simp;omega
      unfold fldOk
      rw[a1,a2];simp only[Bool.and_self,Bool.and_true]
     cases e1:Ps.isNmR u.nm<;>rw[e1] at hnm e0<;>cases e2:(els u.l).all (idxOk (els x.s).length)<;>rw[e2] at hix e0<;>simp only[Bool.and_self,Bool.and_true,Bool.and_false] at e0<;>
      simp[fc16_b0,evKC,evK,evGuard,put,Env.get,Env.keep,Opd.ev,D.asInt?,binD,unD,mapO,D.ren,locD,below,Out.ren,List.map,la,hlt',ia,hk1,m0,m1,st,lx,lx2,hnm,hix,ll,h1',h2',e0])
  (by simp[fc16_b0,evKC,evK,put,Env.get,Env.keep,Opd.ev,binD,mapO,D.ren,locD,below,Out.ren,List.map,la,lx])
theorem rp_prd(x:Spc)(hb:(els x.p).length≤1000000000)(hi:∀f∈els x.p,(els f.l).length≤1000000000):loopK (call pg) pg.G [1,6] fc16_b1 ⟨[(1,.box 0 0),(6,.p (.int .i64 0))],⟨[x.cells.map .p],[]⟩⟩=
    some (if(els x.p).all (prdOk (els x.s).length) then(.exit 2,⟨[(1,.box 0 0),(6,.p (.int .i64 (els x.p).length)),(76,.p (.bool false))],⟨[x.cells.map .p],[]⟩⟩) else(.ret,⟨[(2,.p (.bool false))],⟨[x.cells.map .p],[]⟩⟩)):=by
 have o1:=one_of (spc_one x)
 have lx:=sp_at x
 have la:=len_prds x.p
 exact all_loop (p:=prdOk (els x.s).length) (a:=els x.p) (vs:=[1,6]) (body:=fc16_b1) (S:=fun k=>⟨[(1,.box 0 0),(6,.p (.int .i64 (k:Nat)))],⟨[x.cells.map .p],[]⟩⟩) (fun _=>rfl)
  (fun k h=>by
   have hlt':(k:Int)<((els x.p).length:Int):=by omega
   have ia:=ia_prds h
   have hk1:=inc64 (k:=k) (by omega)
   have hll:=hi _ (List.getElem_mem h)
   generalize (els x.p)[k]=u at *
   have m1:∀(G:Nat→Option (List PD)) H,loadD G H none (.ro u.cells 0)=some (.p (.str u.nm))∧loadD G H none (.ro u.cells 1)=some (.p (prmsP u.l))∧loadD G H (some 5) (.ro u.cells 2)=some (.p u.b.pd):=fun G H=>⟨rfl,rfl,by rw[pd_cells];exact ro_at (pre:=[.str u.nm,prmsP u.l]) rfl rfl⟩
   have hnm:=fun H=>Ps.nameR_eq u.nm H
   have hf:=fun H=>rfrm_eq u.b H
   have ht:=fun H=>rtyped_eq x u.l hll H
   unfold prdOk
   cases e1:Ps.isNmR u.nm<;>rw[e1] at hnm<;>cases e2:Ps.frmR u.b<;>rw[e2] at hf<;>cases e3:(els u.l).all (prmOk (els x.s).length)<;>rw[e3] at ht<;>
    simp[fc16_b1,evKC,evK,evGuard,put,Env.get,Env.keep,Opd.ev,D.asInt?,binD,unD,clsP,cls,clsR,isCl,isW,apartRW,offB,apartWW,clash,insOk,mapO,D.refsL,D.refs,D.toksL,D.toks,D.ren,locD,below,Out.ren,List.map,la,hlt',ia,hk1,m1,lx,hnm,hf,ht])
  (by simp[fc16_b1,evKC,evK,put,Env.get,Env.keep,Opd.ev,binD,mapO,D.ren,locD,below,Out.ren,List.map,la,lx])
theorem rp_fct(x:Spc)(hb:(els x.q).length≤1000000000):loopK (call pg) pg.G [1,8] fc16_b2 ⟨[(1,.box 0 0),(8,.p (.int .i64 0))],⟨[x.cells.map .p],[]⟩⟩=
    some (if(els x.q).all fctOk then(.exit 4,⟨[(1,.box 0 0),(8,.p (.int .i64 (els x.q).length)),(112,.p (.bool false))],⟨[x.cells.map .p],[]⟩⟩) else(.ret,⟨[(2,.p (.bool false))],⟨[x.cells.map .p],[]⟩⟩)):=by
 have o1:=one_of (spc_one x)
 have lx:=sp_at x
 have la:=len_fcts x.q
 exact all_loop (p:=fctOk) (a:=els x.q) (vs:=[1,8]) (body:=fc16_b2) (S:=fun k=>⟨[(1,.box 0 0),(8,.p (.int .i64 (k:Nat)))],⟨[x.cells.map .p],[]⟩⟩) (fun _=>rfl)
  (fun k h=>by
   have hlt':(k:Int)<((els x.q).length:Int):=by omega
   have ia:=ia_fcts h
   have hk1:=inc64 (k:=k) (by omega)
   generalize (els x.q)[k]=u at *
   have m1:∀(G:Nat→Option (List PD)) H,loadD G H none (.ro u.cells 0)=some (.p (.str u.nm))∧loadD G H (some 5) (.ro u.cells 1)=some (.p u.b.pd):=fun G H=>⟨rfl,by rw[pd_cells];exact ro_at (pre:=[.str u.nm]) rfl rfl⟩
   have hnm:=fun H=>Ps.nameR_eq u.nm H
   have hf:=fun H=>rfrm_eq u.b H
   unfold fctOk
   cases e1:Ps.isNmR u.nm<;>rw[e1] at hnm<;>cases e2:Ps.frmR u.b<;>rw[e2] at hf<;>
    simp[fc16_b2,evKC,evK,evGuard,put,Env.get,Env.keep,Opd.ev,D.asInt?,binD,unD,mapO,D.ren,locD,below,Out.ren,List.map,la,hlt',ia,hk1,m1,lx,hnm,hf])
  (by simp[fc16_b2,evKC,evK,put,Env.get,Env.keep,Opd.ev,binD,mapO,D.ren,locD,below,Out.ren,List.map,la,lx])
def szOk(x:Spc):Bool:=decide ((els x.s).length≤4)&&(decide ((els x.f).length≤6)&&(decide ((els x.p).length≤8)&&decide ((els x.q).length≤16)))
def prOk(x:Spc):Bool:=(szOk x&&(List.range (els x.s).length).all (nmdOk (els x.s)))&&((els x.f).all (fldOk (els x.s).length)&&((els x.p).all (prdOk (els x.s).length)&&(els x.q).all fctOk))
theorem rprint_eq(x:Spc)(hm:Mod x)(H:Hp):callD (call pg) 16 [.p x.pd] H=some (.val (.p (.bool (prOk x))),H):=by
 obtain⟨b1,b2,b3,b4,c1,c2,c3⟩:=hm
 have o1:=one_of (spc_one x)
 have lx:=sp_at x
 have a1:=len31 x.s
 have a2:=len_flds x.f
 have a3:=len_prds x.p
 have a4:=len_fcts x.q
 have hn:=fun H=>rnamed_eq x (by omega) H
 simp only[Spc.pd] at hn
 have l1:=rp_fld x (by omega) (fun f hf=>by have:=c1 f hf;omega)
 have l2:=rp_prd x (by omega) (fun f hf=>by have:=c2 f hf;omega)
 have l3:=rp_fct x (by omega)
 refine callD_any (d:=.p (.bool (prOk x))) ⟨⟨[x.cells.map .p],[]⟩,call_body (fc:=fc16) rfl rfl rfl rfl ?_⟩ rfl rfl rfl rfl H
 by_cases h1:(els x.s).length≤4
 ·have k1:¬(4 :Int)<((els x.s).length:Int):=by omega
  by_cases h2:(els x.f).length≤6
  ·have k2:¬(6 :Int)<((els x.f).length:Int):=by omega
   by_cases h3:(els x.p).length≤8
   ·have k3:¬(8 :Int)<((els x.p).length:Int):=by omega
    by_cases h4:(els x.q).length≤16
    ·have k4:¬(16 :Int)<((els x.q).length:Int):=by omega
     have hs:szOk x=true:=by simp[szOk,h1,h2,h3,h4]
     unfold prOk
     rw[hs]
     cases e1:(List.range (els x.s).length).all (nmdOk (els x.s)) with
     |false=>
      rw[e1] at hn
      simp[fc16,evKC,evK,evGuard,put,Env.get,Env.keep,entry,Opd.ev,binD,unD,finish,evRes,evRes1,D.cells,List.map,Spc.pd,lx,a1,a2,a3,a4,k1,k2,k3,k4,hn,o1]
     |true=>
      rw[e1] at hn
      cases e2:(els x.f).all (fldOk (els x.s).length) with
      |false=>
       rw[e2] at l1
       simp[fc16,evKC,evK,evGuard,put,Env.get,Env.keep,entry,Opd.ev,binD,unD,finish,evRes,evRes1,D.cells,List.map,Spc.pd,lx,a1,a2,a3,a4,k1,k2,k3,k4,hn,o1,l1]
      |true=>
       rw[e2] at l1
       cases e3:(els x.p).all (prdOk (els x.s).length) with
       |false=>
        rw[e3] at l2
        simp[fc16,evKC,evK,evGuard,put,Env.get,Env.keep,entry,Opd.ev,binD,unD,finish,evRes,evRes1,D.cells,List.map,Spc.pd,lx,a1,a2,a3,a4,k1,k2,k3,k4,hn,o1,l1,l2]
       |true=>
        rw[e3] at l2
        cases e4:(els x.q).all fctOk<;>rw[e4] at l3<;>
         simp[fc16,evKC,evK,evGuard,put,Env.get,Env.keep,entry,Opd.ev,binD,unD,finish,evRes,evRes1,D.cells,List.map,Spc.pd,lx,a1,a2,a3,a4,k1,k2,k3,k4,hn,o1,l1,l2,l3]
    ·have k4:(16 :Int)<((els x.q).length:Int):=by omega
     have hs:prOk x=false:=by simp[prOk,szOk,h4]
     simp[fc16,evKC,evK,evGuard,put,Env.get,Env.keep,entry,Opd.ev,binD,finish,evRes,evRes1,D.cells,List.map,Spc.pd,lx,a1,a2,a3,a4,k1,k2,k3,k4,hs,o1]
   ·have k3:(8 :Int)<((els x.p).length:Int):=by omega
    have hs:prOk x=false:=by simp[prOk,szOk,h3]
    simp[fc16,evKC,evK,evGuard,put,Env.get,Env.keep,entry,Opd.ev,binD,finish,evRes,evRes1,D.cells,List.map,Spc.pd,lx,a1,a2,a3,k1,k2,k3,hs,o1]
  ·have k2:(6 :Int)<((els x.f).length:Int):=by omega
   have hs:prOk x=false:=by simp[prOk,szOk,h2]
   simp[fc16,evKC,evK,evGuard,put,Env.get,Env.keep,entry,Opd.ev,binD,finish,evRes,evRes1,D.cells,List.map,Spc.pd,lx,a1,a2,k1,k2,hs,o1]
 ·have k1:(4 :Int)<((els x.s).length:Int):=by omega
  have hs:prOk x=false:=by simp[prOk,szOk,h1]
  simp[fc16,evKC,evK,evGuard,put,Env.get,Env.keep,entry,Opd.ev,binD,finish,evRes,evRes1,D.cells,List.map,Spc.pd,lx,a1,k1,hs,o1]
def cat{α:Type}(g:Nat→α→List UInt8):Nat→List α→List UInt8
 |_,[]=>[]
 |k,x::r=>g k x++cat g (k+1) r
theorem cat_len{α:Type}{g:Nat→α→List UInt8}{C:Nat}:∀(l:List α) (k:Nat),(∀k,∀x∈l,(g k x).length≤C)→(cat g k l).length≤l.length*C
 |[],_,_=>by simp[cat]
 |x::r,k,h=>by
  have h1:=h k x (by simp)
  have h2:=cat_len r (k+1) (fun k y hy=>h k y (by simp[hy]))
  simp only[cat,List.length_append,List.length_cons,Nat.succ_mul];omega
theorem acc_loop{α:Type}{g:Nat→α→List UInt8}{a:List α}{vs:List Nat}{body:SC}{S:Nat→List UInt8→St}{F:List UInt8→St}{e:Nat}(C M:Nat)(hkp:∀k t,(⟨Env.keep vs (S k t).env,(S k t).hp⟩:St)=S k t)
    (hg:∀k,∀x∈a,(g k x).length≤C)
    (hs:∀k (h:k<a.length) t,t.length+C≤M→evS (call pg) pg.G iterX body (S k t)=some (.norm,S (k+1) (t++g k a[k])))
    (he:∀t,t.length≤M→evS (call pg) pg.G iterX body (S a.length t)=some (.exit e,F t)) (t:List UInt8) (hb:t.length+a.length*C≤M):loopK (call pg) pg.G vs body (S 0 t)=some (.exit e,F (t++cat g 0 a)):=by
 have main:∀(j k:Nat) (t:List UInt8),a.length-k≤j→k≤a.length→t.length+(a.length-k)*C≤M→loopK (call pg) pg.G vs body (S k t)=some (.exit e,F (t++cat g k (a.drop k))):=by
  have fin:∀k t,k=a.length→t.length≤M→loopK (call pg) pg.G vs body (S k t)=some (.exit e,F (t++cat g k (a.drop k))):=by
   intro k t hk hm
   subst hk
   rw[List.drop_eq_nil_of_le (Nat.le_refl _),cat,List.append_nil]
   exact loopK_out (by rw[hkp];exact he t hm) (by simp)
  intro j
  induction j with
  |zero=>exact fun k t hn hk hm=>fin k t (by omega) (by omega)
  |succ j IH=>
   intro k t hn hk hm
   by_cases hq:k=a.length
   ·exact fin k t hq (by omega)
   ·have hlt:k<a.length:=by omega
    have e1:(a.length-k)*C=(a.length-(k+1))*C+C:=by rw[show a.length-k=(a.length-(k+1))+1 by omega,Nat.succ_mul]
    have hs:=hs k hlt t (by omega)
    have hl:=hg k _ (List.getElem_mem hlt)
    rw[List.drop_eq_getElem_cons hlt,cat,←List.append_assoc,←IH (k+1) (t++g k a[k]) (by omega) (by omega) (by rw[List.length_append];omega)]
    exact loopK_norm (by rw[hkp];exact hs)
 have:=main a.length 0 t (by omega) (by omega) (by simpa using hb)
 rwa [List.drop_zero] at this
def nmAt(l:List Srt)(i:Int):List UInt8:=(srtAt l i.toNat).nm
def sepg{α:Type}(sep:List UInt8)(f:α→List UInt8)(k:Nat)(x:α):List UInt8:=(if 0<k then sep else[])++f x
def srtT(s:Srt):List UInt8:=[115,111,114,116,32]++(s.nm++((if s.o then[32,111,114,100,101,114,101,100] else[])++[59,10]))
def fldT(ns:List Srt)(f:Fld):List UInt8:=(if f.v then[118,97,114,32] else[])++([102,105,101,108,100,32]++(f.nm++([58,32]++(cat (sepg [32,45,62,32] (nmAt ns)) 0 (els f.l)++[59,10]))))
def prmT(ns:List Srt)(p:Prm):List UInt8:=p.nm++([58,32]++nmAt ns p.s)
def prdT(ns:List Srt)(p:Prd):List UInt8:=[112,114,101,100,32]++(p.nm++([91]++(cat (sepg [44,32] (prmT ns)) 0 (els p.l)++([93,32,123,32]++(txt p.b true++[32,125,10])))))
def fctT(q:Fct):List UInt8:=[102,97,99,116,32]++(q.nm++([32,123,32]++(txt q.b true++[32,125,10])))
structure PrOk (x:Spc):Prop where
 ns:(els x.s).length≤4
 nf:(els x.f).length≤6
 np:(els x.p).length≤8
 nq:(els x.q).length≤16
 s:∀s∈els x.s,s.nm.length≤16
 f:∀f∈els x.f,f.nm.length≤16∧(els f.l).length≤3∧∀i∈els f.l,0≤i∧i<(els x.s).length
 p:∀p∈els x.p,p.nm.length≤16∧(els p.l).length≤20∧(∀q∈els p.l,q.nm.length≤16∧0≤q.s∧q.s<(els x.s).length)∧Ps.validN p.b=true
 q:∀q∈els x.q,q.nm.length≤16∧Ps.validN q.b=true
theorem nmR_len{s:List UInt8}(h:Ps.isNmR s=true):s.length≤16:=by
 unfold Ps.isNmR at h
 simp only[Bool.and_eq_true,decide_eq_true_eq] at h
 exact h.2.1
theorem frm_valid{a:Nd}(h:Ps.frmR a=true):Ps.validN a=true:=by
 unfold Ps.frmR at h
 rw[Bool.and_eq_true] at h
 exact Ps.valid_of h.1
theorem prOk_of{x:Spc}(hm:Mod x)(h:prOk x=true):PrOk x:=by
 unfold prOk szOk at h
 simp only[Bool.and_eq_true,decide_eq_true_eq,List.all_eq_true] at h
 obtain⟨⟨⟨h1,h2,h3,h4⟩,hn⟩,hf,hp,hq⟩:=h
 obtain⟨_,_,_,_,c1,c2,c3⟩:=hm
 have ix:∀{i:Int},idxOk (els x.s).length i=true→0≤i∧i<(els x.s).length:=fun {i} h=>by
  unfold idxOk at h
  simpa only[Bool.and_eq_true,decide_eq_true_eq] using h
 refine⟨h1,h2,h3,h4,?_,?_,?_,?_⟩
 ·intro s hs
  obtain⟨k,hk,rfl⟩:=List.getElem_of_mem hs
  have:=hn k (by simpa using hk)
  unfold nmdOk at this
  rw[Bool.and_eq_true,srtAt_eq hk] at this
  exact nmR_len this.1
 ·intro f hf'
  have:=hf f hf'
  unfold fldOk at this
  simp only[Bool.and_eq_true,decide_eq_true_eq,List.all_eq_true] at this
  exact⟨nmR_len this.1.1,this.2.2,fun i hi=>ix (this.1.2 i hi)⟩
 ·intro p hp'
  have:=hp p hp'
  unfold prdOk at this
  simp only[Bool.and_eq_true,List.all_eq_true] at this
  refine⟨nmR_len this.1.1,(c2 p hp').2,fun q hq=>?_,frm_valid this.1.2⟩
  have h:=this.2 q hq
  unfold prmOk at h
  rw[Bool.and_eq_true] at h
  exact⟨nmR_len h.1,ix h.2⟩
 ·intro q hq'
  have:=hq q hq'
  unfold fctOk at this
  rw[Bool.and_eq_true] at this
  exact⟨nmR_len this.1,frm_valid this.2⟩
theorem nmAt_len{x:Spc}(h:PrOk x)(i:Int):(nmAt (els x.s) i).length≤16:=by
 unfold nmAt srtAt
 cases hq:(els x.s)[i.toNat]? with
 |none=>simp
 |some s=>exact h.s s (List.mem_of_getElem? hq)
theorem srtT_len{x:Spc}(h:PrOk x):∀s∈els x.s,(srtT s).length≤100:=fun s hs=>by
 have:=h.s s hs
 cases ho:s.o<;>simp[srtT,ho]<;>omega
theorem fldT_len{x:Spc}(h:PrOk x):∀f∈els x.f,(fldT (els x.s) f).length≤200:=fun f hf=>by
 obtain⟨h1,h2,h3⟩:=h.f f hf
 have h4:=cat_len (g:=sepg [32,45,62,32] (nmAt (els x.s))) (C:=20) (els f.l) 0 (fun k i hi=>by
  have:=nmAt_len h i
  unfold sepg
  split<;>simp<;>omega)
 cases ho:f.v<;>simp[fldT,ho]<;>omega
theorem prmT_len{x:Spc}(h:PrOk x){q:Prm}(hq:q.nm.length≤16):(prmT (els x.s) q).length≤40:=by
 have:=nmAt_len h q.s
 simp[prmT];omega
theorem prdT_len{x:Spc}(h:PrOk x):∀p∈els x.p,(prdT (els x.s) p).length≤20000:=fun f hf=>by
 obtain⟨h1,h2,h3,hv⟩:=h.p f hf
 have h4:=cat_len (g:=sepg [44,32] (prmT (els x.s))) (C:=50) (els f.l) 0 (fun k i hi=>by
  have:=prmT_len h (h3 i hi).1
  unfold sepg
  split<;>simp<;>omega)
 have h5:=txt_short hv true
 simp[prdT];omega
theorem fctT_len{x:Spc}(h:PrOk x):∀q∈els x.q,(fctT q).length≤20000:=fun f hf=>by
 obtain⟨h1,hv⟩:=h.q f hf
 have h5:=txt_short hv true
 simp[fctT];omega
def spcT(x:Spc):List UInt8:=((cat (fun _=>srtT) 0 (els x.s)++cat (fun _=>fldT (els x.s)) 0 (els x.f))++cat (fun _=>prdT (els x.s)) 0 (els x.p))++cat (fun _=>fctT) 0 (els x.q)
theorem ia_srt{x:Spc}{i:Int}(h0:0≤i)(h1:i<(els x.s).length):iaddrD none 2 (.p (srtsP x.s)) i=some (.ro (srtAt (els x.s) i.toNat).cells 0):=by
 have h:i.toNat<(els x.s).length:=by omega
 have:=ia31 (o:=x.s) h
 rw[srtAt_eq h,←this,Int.toNat_of_nonneg h0]
theorem addU{a b:List UInt8}(h:a.length+b.length≤100000000):∃u,u=a++b∧u.length=a.length+b.length∧binD .add (.p (.str a)) (.p (.str b))=some (.p (.str u)):=
 ⟨_,rfl,by simp,addS (by omega)⟩
theorem rfield_eq{x:Spc}(hx:PrOk x){f:Fld}(hf:f∈els x.f)(H:Hp):callD (call pg) 54 [.p x.pd,.p f.pd] H=some (.val (.p (.str (fldT (els x.s) f))),H):=by
 obtain⟨hn,hl,hi⟩:=hx.f f hf
 have o1:=one_of (spc_one x)
 have o2:=one_of (fld_one f)
 have lx:∀(G:Nat→Option (List PD)) tk,loadD G ⟨[x.cells.map .p,f.cells.map .p],tk⟩ none (.box 0 0)=some (.p (srtsP x.s)):=fun _ _=>rfl
 have lf:∀(G:Nat→Option (List PD)) tk,loadD G ⟨[x.cells.map .p,f.cells.map .p],tk⟩ none (.box 1 0)=some (.p (.str f.nm))∧loadD G ⟨[x.cells.map .p,f.cells.map .p],tk⟩ none (.box 1 1)=some (.p (intsP f.l))∧loadD G ⟨[x.cells.map .p,f.cells.map .p],tk⟩ none (.box 1 2)=some (.p (.bool f.v)):=fun _ _=>⟨rfl,rfl,rfl⟩
 have la:=len27 f.l
 have loop:=fun(t:List UInt8) (ht:t.length≤1000)=>acc_loop (g:=sepg [32,45,62,32] (nmAt (els x.s))) (a:=els f.l) (vs:=[2,3,5,6]) (body:=fc54_b0) (S:=fun k t=>⟨[(2,.box 0 0),(3,.box 1 0),(5,.p (.str t)),(6,.p (.int .i64 (k:Nat)))],⟨[x.cells.map .p,f.cells.map .p],[]⟩⟩)
  (F:=fun t=>⟨[(2,.box 0 0),(3,.box 1 0),(5,.p (.str t)),(6,.p (.int .i64 ((els f.l).length:Nat))),(19,.p (.bool false))],⟨[x.cells.map .p,f.cells.map .p],[]⟩⟩) (e:=0) 20 10000 (fun _ _=>rfl)
  (fun k i _=>by
   have:=nmAt_len hx i
   unfold sepg
   split<;>simp<;>omega)
  (fun k h t hb=>by
   have hlt':(k:Int)<((els f.l).length:Int):=by omega
   have ia:=ia27 h
   have hk1:=inc64 (k:=k) (by omega)
   have hii:=hi _ (List.getElem_mem h)
   generalize (els f.l)[k]=i at *
   have ib:=ia_srt hii.1 hii.2
   have hnl:=nmAt_len hx i
   unfold nmAt at hnl
   unfold sepg nmAt
   generalize srtAt (els x.s) i.toNat=s at *
   have l0:=srt_l0 s
   have r0:∀(G:Nat→Option (List PD)) (H:Hp),loadD G H none (.ro (intCells i) 0)=some (.p (.int .i64 i)):=fun _ _=>rfl
   by_cases h0:0<k
   ·have h0':(0 :Int)<(k:Int):=by omega
    obtain⟨u1,e1,n1,b1⟩:=addU (a:=t) (b:=[32,45,62,32]) (by simp;omega)
    simp only[List.length_cons,List.length_nil] at n1
    obtain⟨u2,e2,n2,b2⟩:=addU (a:=u1) (b:=s.nm) (by omega)
    have e3:t++((if 0<k then[32,45,62,32] else[])++s.nm)=u2:=by rw[if_pos h0,e2,e1,List.append_assoc]
    rw[e3]
    simp[fc54_b0,evKC,evK,put,Env.get,Env.keep,Opd.ev,D.asInt?,clsP,cls,clsR,isCl,isW,apartRW,offB,apartWW,clash,insOk,List.map,binD_int,intBin,lx,lf,la,hlt',ia,ib,l0,r0,h0,hk1,b1,b2]
   ·have h0':¬(0 :Int)<(k:Int):=by omega
    have hk0:k=0:=by omega
    obtain⟨u2,e2,n2,b2⟩:=addU (a:=t) (b:=s.nm) (by omega)
    have e3:t++((if 0<k then[32,45,62,32] else[])++s.nm)=u2:=by rw[if_neg h0,e2,List.nil_append]
    rw[e3]
    simp[fc54_b0,evKC,evK,put,Env.get,Env.keep,Opd.ev,D.asInt?,clsP,cls,clsR,isCl,isW,apartRW,offB,apartWW,clash,insOk,List.map,binD_int,intBin,lx,lf,la,hlt',ia,ib,l0,r0,h0,hk1,b2])
  (fun t _=>by simp[fc54_b0,evKC,evK,put,Env.get,Env.keep,Opd.ev,List.map,binD_int,intBin,lf,la]) t (by omega)
 refine callD_any (d:=.p (.str (fldT (els x.s) f))) ⟨⟨[x.cells.map .p,f.cells.map .p],[]⟩,call_body (fc:=fc54) rfl rfl rfl rfl ?_⟩ rfl rfl rfl rfl H
 have hc:=cat_len (g:=sepg [32,45,62,32] (nmAt (els x.s))) (C:=20) (els f.l) 0 (fun k i hi=>by
  have:=nmAt_len hx i
  unfold sepg
  split<;>simp<;>omega)
 obtain⟨u1,e1,n1,b1⟩:=addU (a:=[102,105,101,108,100,32]) (b:=f.nm) (by simp;omega)
 obtain⟨u2,e2,n2,b2⟩:=addU (a:=u1) (b:=[58,32]) (by simp at n1⊢;omega)
 obtain⟨u3,e3,n3,b3⟩:=addU (a:=[118,97,114,32]) (b:=u2) (by simp at n1 n2⊢;omega)
 simp only[List.length_cons,List.length_nil] at n1 n2 n3
 cases hv:f.v with
 |true=>
  rw[hv] at lf
  have hl1:=loop u3 (by omega)
  simp only[Int.natCast_zero] at hl1
  generalize hcat:cat (sepg [32,45,62,32] (nmAt (els x.s))) 0 (els f.l)=ct at *
  obtain⟨u5,e5,n5,b5⟩:=addU (a:=u3++ct) (b:=[59,10]) (by simp;omega)
  have e:fldT (els x.s) f=u5:=by rw[e5,e3,e2,e1];simp[fldT,hv,hcat]
  rw[e]
  generalize u3++ct=u4 at *
  simp[fc54,evKC,evK,put,Env.get,Env.keep,entry,Opd.ev,finish,evRes,evRes1,D.cells,Spc.pd,Fld.pd,o1,o2,lf,b1,b2,b3,hl1,b5]
 |false=>
  rw[hv] at lf
  have hl1:=loop u2 (by omega)
  simp only[Int.natCast_zero] at hl1
  generalize hcat:cat (sepg [32,45,62,32] (nmAt (els x.s))) 0 (els f.l)=ct at *
  obtain⟨u5,e5,n5,b5⟩:=addU (a:=u2++ct) (b:=[59,10]) (by simp;omega)
  have e:fldT (els x.s) f=u5:=by rw[e5,e2,e1];simp[fldT,hv,hcat]
  rw[e]
  generalize u2++ct=u4 at *
  simp[fc54,evKC,evK,put,Env.get,Env.keep,entry,Opd.ev,finish,evRes,evRes1,D.cells,Spc.pd,Fld.pd,o1,o2,lf,b1,b2,hl1,b5]
theorem rpred_eq{x:Spc}(hx:PrOk x){f:Prd}(hf:f∈els x.p)(H:Hp):callD (call pg) 55 [.p x.pd,.p f.pd] H=some (.val (.p (.str (prdT (els x.s) f))),H):=by
 obtain⟨hn,hl,hi,hv⟩:=hx.p f hf
 have o1:=one_of (spc_one x)
 have o2:=one_of (prd_one f)
 have lx:∀(G:Nat→Option (List PD)) tk,loadD G ⟨[x.cells.map .p,f.cells.map .p],tk⟩ none (.box 0 0)=some (.p (srtsP x.s)):=fun _ _=>rfl
 have lf:∀(G:Nat→Option (List PD)) tk,loadD G ⟨[x.cells.map .p,f.cells.map .p],tk⟩ none (.box 1 0)=some (.p (.str f.nm))∧loadD G ⟨[x.cells.map .p,f.cells.map .p],tk⟩ none (.box 1 1)=some (.p (prmsP f.l))∧loadD G ⟨[x.cells.map .p,f.cells.map .p],tk⟩ (some 5) (.box 1 2)=some (.p f.b.pd):=fun _ _=>⟨rfl,rfl,by rw[pd_cells];exact load_at (pre:=[.str f.nm,prmsP f.l]) rfl rfl rfl⟩
 have la:=len29 f.l
 have ht:=txt_short hv true
 have hfr:=fun H=>formula_r hv H
 have loop:=fun(t:List UInt8) (ht:t.length≤1000)=>acc_loop (g:=sepg [44,32] (prmT (els x.s))) (a:=els f.l) (vs:=[2,3,5,6]) (body:=fc55_b0) (S:=fun k t=>⟨[(2,.box 0 0),(3,.box 1 0),(5,.p (.str t)),(6,.p (.int .i64 (k:Nat)))],⟨[x.cells.map .p,f.cells.map .p],[]⟩⟩)
  (F:=fun t=>⟨[(2,.box 0 0),(3,.box 1 0),(5,.p (.str t)),(6,.p (.int .i64 ((els f.l).length:Nat))),(15,.p (.bool false))],⟨[x.cells.map .p,f.cells.map .p],[]⟩⟩) (e:=0) 50 10000 (fun _ _=>rfl)
  (fun k i hii=>by
   have:=prmT_len hx (hi i hii).1
   unfold sepg
   split<;>simp<;>omega)
  (fun k h t hb=>by
   have hlt':(k:Int)<((els f.l).length:Int):=by omega
   have ia:=ia29 h
   have hk1:=inc64 (k:=k) (by omega)
   have hii:=hi _ (List.getElem_mem h)
   generalize (els f.l)[k]=i at *
   have ib:=ia_srt hii.2.1 hii.2.2
   have hnl:=nmAt_len hx i.s
   have hn0:=hii.1
   unfold nmAt at hnl
   unfold sepg prmT nmAt
   generalize srtAt (els x.s) i.s.toNat=s at *
   have l0:=srt_l0 s
   have r0:∀(G:Nat→Option (List PD)) (H:Hp),loadD G H none (.ro i.cells 0)=some (.p (.str i.nm))∧loadD G H none (.ro i.cells 1)=some (.p (.int .i64 i.s)):=fun _ _=>⟨rfl,rfl⟩
   by_cases h0:0<k
   ·have h0':(0 :Int)<(k:Int):=by omega
    obtain⟨u1,e1,n1,b1⟩:=addU (a:=t) (b:=[44,32]) (by simp;omega)
    simp only[List.length_cons,List.length_nil] at n1
    obtain⟨u2,e2,n2,b2⟩:=addU (a:=u1) (b:=i.nm) (by omega)
    obtain⟨u3,e3,n3,b3⟩:=addU (a:=u2) (b:=[58,32]) (by simp;omega)
    simp only[List.length_cons,List.length_nil] at n3
    obtain⟨u4,e4,n4,b4⟩:=addU (a:=u3) (b:=s.nm) (by omega)
    have e:t++((if 0<k then[44,32] else[])++(i.nm++([58,32]++s.nm)))=u4:=by rw[if_pos h0,e4,e3,e2,e1];simp
    rw[e]
    simp[fc55_b0,evKC,evK,put,Env.get,Env.keep,Opd.ev,D.asInt?,clsP,cls,clsR,isCl,isW,apartRW,offB,apartWW,clash,insOk,List.map,binD_int,intBin,lx,lf,la,hlt',ia,ib,l0,r0,h0,hk1,b1,b2,b3,b4]
   ·have h0':¬(0 :Int)<(k:Int):=by omega
    obtain⟨u2,e2,n2,b2⟩:=addU (a:=t) (b:=i.nm) (by omega)
    obtain⟨u3,e3,n3,b3⟩:=addU (a:=u2) (b:=[58,32]) (by simp;omega)
    simp only[List.length_cons,List.length_nil] at n3
    obtain⟨u4,e4,n4,b4⟩:=addU (a:=u3) (b:=s.nm) (by omega)
    have e:t++((if 0<k then[44,32] else[])++(i.nm++([58,32]++s.nm)))=u4:=by rw[if_neg h0,e4,e3,e2];simp
    rw[e]
    simp[fc55_b0,evKC,evK,put,Env.get,Env.keep,Opd.ev,D.asInt?,clsP,cls,clsR,isCl,isW,apartRW,offB,apartWW,clash,insOk,List.map,binD_int,intBin,lx,lf,la,hlt',ia,ib,l0,r0,h0,hk1,b2,b3,b4])
  (fun t _=>by simp[fc55_b0,evKC,evK,put,Env.get,Env.keep,Opd.ev,List.map,binD_int,intBin,lf,la]) t (by omega)
 refine callD_any (d:=.p (.str (prdT (els x.s) f))) ⟨⟨[x.cells.map .p,f.cells.map .p],[]⟩,call_body (fc:=fc55) rfl rfl rfl rfl ?_⟩ rfl rfl rfl rfl H
 have hc:=cat_len (g:=sepg [44,32] (prmT (els x.s))) (C:=50) (els f.l) 0 (fun k i hii=>by
  have:=prmT_len hx (hi i hii).1
  unfold sepg
  split<;>simp<;>omega)
 obtain⟨u1,e1,n1,b1⟩:=addU (a:=[112,114,101,100,32]) (b:=f.nm) (by simp;omega)
 simp only[List.length_cons,List.length_nil] at n1
 obtain⟨u2,e2,n2,b2⟩:=addU (a:=u1) (b:=[91]) (by simp;omega)
 simp only[List.length_cons,List.length_nil] at n2
 have hl1:=loop u2 (by omega)
 simp only[Int.natCast_zero] at hl1
 generalize hcat:cat (sepg [44,32] (prmT (els x.s))) 0 (els f.l)=ct at *
 generalize htx:txt f.b true=tx at *
 obtain⟨u4,e4,n4,b4⟩:=addU (a:=u2++ct) (b:=[93,32,123,32]) (by simp;omega)
 simp only[List.length_append,List.length_cons,List.length_nil] at n4
 obtain⟨u5,e5,n5,b5⟩:=addU (a:=u4) (b:=tx) (by omega)
 obtain⟨u6,e6,n6,b6⟩:=addU (a:=u5) (b:=[32,125,10]) (by simp;omega)
 have e:prdT (els x.s) f=u6:=by rw[e6,e5,e4,e2,e1];simp[prdT,hcat,htx]
 rw[e]
 generalize u2++ct=u3 at *
 simp[fc55,evKC,evK,put,Env.get,Env.keep,entry,Opd.ev,finish,evRes,evRes1,D.cells,Spc.pd,Prd.pd,o1,o2,lf,b1,b2,hl1,b4,hfr,b5,b6]
def rsS(x:Spc)(v k:Nat)(t:List UInt8):St:=⟨[(1,.box 0 0),(3,.p (.str t)),(v,.p (.int .i64 (k:Nat)))],⟨[x.cells.map .p],[]⟩⟩
def rsE(x:Spc)(v k w:Nat)(t:List UInt8):St:=⟨[(1,.box 0 0),(3,.p (.str t)),(v,.p (.int .i64 (k:Nat))),(w,.p (.bool false))],⟨[x.cells.map .p],[]⟩⟩
theorem rs_b0{x:Spc}(hx:PrOk x)(t:List UInt8)(ht:t.length≤1000000):loopK (call pg) pg.G [1,3,4] fc18_b0 (rsS x 4 0 t)=some (.exit 0,rsE x 4 (els x.s).length 12 (t++cat (fun _=>srtT) 0 (els x.s))):=by
 have lx:=sp_at x
 have la:=len31 x.s
 have hns:=hx.ns
 exact acc_loop (g:=fun _=>srtT) (a:=els x.s) (vs:=[1,3,4]) (body:=fc18_b0) (S:=rsS x 4) (F:=rsE x 4 (els x.s).length 12) (e:=0) 100 2000000 (fun _ _=>rfl)
  (fun _ s hs=>srtT_len hx s hs)
  (fun k h t hb=>by
   have hlt':(k:Int)<((els x.s).length:Int):=by omega
   have ia:=ia31 h
   have hk1:=inc64 (k:=k) (by omega)
   have hl:=hx.s _ (List.getElem_mem h)
   generalize (els x.s)[k]=s at *
   have l0:=srt_l0 s
   have l1:∀(G:Nat→Option (List PD)) (H:Hp),loadD G H none (.ro s.cells 1)=some (.p (.bool s.o)):=fun _ _=>rfl
   obtain⟨u1,e1,n1,b1⟩:=addU (a:=t) (b:=[115,111,114,116,32]) (by simp;omega)
   simp only[List.length_cons,List.length_nil] at n1
   obtain⟨u2,e2,n2,b2⟩:=addU (a:=u1) (b:=s.nm) (by omega)
   obtain⟨u3,e3,n3,b3⟩:=addU (a:=u2) (b:=[32,111,114,100,101,114,101,100]) (by simp;omega)
   simp only[List.length_cons,List.length_nil] at n3
   obtain⟨u4,e4,n4,b4⟩:=addU (a:=u3) (b:=[59,10]) (by simp;omega)
   obtain⟨u5,e5,n5,b5⟩:=addU (a:=u2) (b:=[59,10]) (by simp;omega)
   cases ho:s.o with
   |true=>
    have e:t++srtT s=u4:=by rw[e4,e3,e2,e1];simp[srtT,ho]
    rw[e]
    rw[ho] at l1
    simp[fc18_b0,rsS,evKC,evK,put,Env.get,Env.keep,Opd.ev,D.asInt?,List.map,binD_int,intBin,lx,la,hlt',ia,l0,l1,hk1,b1,b2,b3,b4]
   |false=>
    have e:t++srtT s=u5:=by rw[e5,e2,e1];simp[srtT,ho]
    rw[e]
    rw[ho] at l1
    simp[fc18_b0,rsS,evKC,evK,put,Env.get,Env.keep,Opd.ev,D.asInt?,List.map,binD_int,intBin,lx,la,hlt',ia,l0,l1,hk1,b1,b2,b5])
  (fun t _=>by simp[fc18_b0,rsS,rsE,evKC,evK,put,Env.get,Env.keep,Opd.ev,List.map,binD_int,intBin,lx,la]) t (by omega)
theorem rs_b1{x:Spc}(hx:PrOk x)(t:List UInt8)(ht:t.length≤1000000):loopK (call pg) pg.G [1,3,5] fc18_b1 (rsS x 5 0 t)=some (.exit 2,rsE x 5 (els x.f).length 38 (t++cat (fun _=>fldT (els x.s)) 0 (els x.f))):=by
 have lx:=sp_at x
 have la:=len_flds x.f
 have hns:=hx.nf
 have o1:=one_of (spc_one x)
 exact acc_loop (g:=fun _=>fldT (els x.s)) (a:=els x.f) (vs:=[1,3,5]) (body:=fc18_b1) (S:=rsS x 5) (F:=rsE x 5 (els x.f).length 38) (e:=2) 200 2000000 (fun _ _=>rfl)
  (fun _ s hs=>fldT_len hx s hs)
  (fun k h t hb=>by
   have hlt':(k:Int)<((els x.f).length:Int):=by omega
   have ia:=ia_flds h
   have hk1:=inc64 (k:=k) (by omega)
   have hm:=List.getElem_mem h
   have hl:=fldT_len hx _ hm
   have hc:=fun H=>rfield_eq hx hm H
   generalize (els x.f)[k]=s at *
   have l0:∀(G:Nat→Option (List PD)) (H:Hp),loadD G H (some 3) (.ro s.cells 0)=some (.p s.pd):=fun _ _=>load_ro rfl
   obtain⟨u1,e1,n1,b1⟩:=addU (a:=t) (b:=fldT (els x.s) s) (by omega)
   rw[←e1]
   generalize fldT (els x.s) s=ft at *
   simp[fc18_b1,rsS,evKC,evK,put,Env.get,Env.keep,Opd.ev,D.asInt?,clsP,cls,clsR,isCl,isW,apartRW,offB,apartWW,clash,insOk,mapO,D.refsL,D.refs,D.toksL,D.toks,D.ren,locD,below,Out.ren,List.map,binD_int,intBin,lx,la,hlt',ia,l0,hc,hk1,b1])
  (fun t _=>by simp[fc18_b1,rsS,rsE,evKC,evK,put,Env.get,Env.keep,Opd.ev,mapO,D.ren,locD,below,Out.ren,List.map,binD_int,intBin,lx,la]) t (by omega)
theorem rs_b2{x:Spc}(hx:PrOk x)(t:List UInt8)(ht:t.length≤1000000):loopK (call pg) pg.G [1,3,6] fc18_b2 (rsS x 6 0 t)=some (.exit 4,rsE x 6 (els x.p).length 54 (t++cat (fun _=>prdT (els x.s)) 0 (els x.p))):=by
 have lx:=sp_at x
 have la:=len_prds x.p
 have hns:=hx.np
 have o1:=one_of (spc_one x)
 exact acc_loop (g:=fun _=>prdT (els x.s)) (a:=els x.p) (vs:=[1,3,6]) (body:=fc18_b2) (S:=rsS x 6) (F:=rsE x 6 (els x.p).length 54) (e:=4) 20000 2000000 (fun _ _=>rfl)
  (fun _ s hs=>prdT_len hx s hs)
  (fun k h t hb=>by
   have hlt':(k:Int)<((els x.p).length:Int):=by omega
   have ia:=ia_prds h
   have hk1:=inc64 (k:=k) (by omega)
   have hm:=List.getElem_mem h
   have hl:=prdT_len hx _ hm
   have hc:=fun H=>rpred_eq hx hm H
   generalize (els x.p)[k]=s at *
   have l0:∀(G:Nat→Option (List PD)) (H:Hp),loadD G H (some 7) (.ro s.cells 0)=some (.p s.pd):=fun _ _=>load_ro (by simp[Prd.cells,nd_len])
   obtain⟨u1,e1,n1,b1⟩:=addU (a:=t) (b:=prdT (els x.s) s) (by omega)
   rw[←e1]
   generalize prdT (els x.s) s=ft at *
   simp[fc18_b2,rsS,evKC,evK,put,Env.get,Env.keep,Opd.ev,D.asInt?,clsP,cls,clsR,isCl,isW,apartRW,offB,apartWW,clash,insOk,mapO,D.refsL,D.refs,D.toksL,D.toks,D.ren,locD,below,Out.ren,List.map,binD_int,intBin,lx,la,hlt',ia,l0,hc,hk1,b1])
  (fun t _=>by simp[fc18_b2,rsS,rsE,evKC,evK,put,Env.get,Env.keep,Opd.ev,mapO,D.ren,locD,below,Out.ren,List.map,binD_int,intBin,lx,la]) t (by omega)
theorem rs_b3{x:Spc}(hx:PrOk x)(t:List UInt8)(ht:t.length≤1000000):loopK (call pg) pg.G [1,3,7] fc18_b3 (rsS x 7 0 t)=some (.exit 6,rsE x 7 (els x.q).length 70 (t++cat (fun _=>fctT) 0 (els x.q))):=by
 have lx:=sp_at x
 have la:=len_fcts x.q
 have hns:=hx.nq
 have o1:=one_of (spc_one x)
 exact acc_loop (g:=fun _=>fctT) (a:=els x.q) (vs:=[1,3,7]) (body:=fc18_b3) (S:=rsS x 7) (F:=rsE x 7 (els x.q).length 70) (e:=6) 20000 2000000 (fun _ _=>rfl)
  (fun _ s hs=>fctT_len hx s hs)
  (fun k h t hb=>by
   have hlt':(k:Int)<((els x.q).length:Int):=by omega
   have ia:=ia_fcts h
   have hk1:=inc64 (k:=k) (by omega)
   obtain⟨hl,hv⟩:=hx.q _ (List.getElem_mem h)
   generalize (els x.q)[k]=s at *
   have ht:=txt_short hv true
   have hfr:=fun H=>formula_r hv H
   have l0:∀(G:Nat→Option (List PD)) (H:Hp),loadD G H none (.ro s.cells 0)=some (.p (.str s.nm))∧loadD G H (some 5) (.ro s.cells 1)=some (.p s.b.pd):=fun _ _=>⟨rfl,by rw[pd_cells];exact ro_at (pre:=[.str s.nm]) rfl rfl⟩
   obtain⟨u1,e1,n1,b1⟩:=addU (a:=t) (b:=[102,97,99,116,32]) (by simp;omega)
   simp only[List.length_cons,List.length_nil] at n1
   obtain⟨u2,e2,n2,b2⟩:=addU (a:=u1) (b:=s.nm) (by omega)
   obtain⟨u3,e3,n3,b3⟩:=addU (a:=u2) (b:=[32,123,32]) (by simp;omega)
   simp only[List.length_cons,List.length_nil] at n3
   obtain⟨u4,e4,n4,b4⟩:=addU (a:=u3) (b:=txt s.b true) (by omega)
   obtain⟨u5,e5,n5,b5⟩:=addU (a:=u4) (b:=[32,125,10]) (by simp;omega)
   have e:t++fctT s=u5:=by rw[e5,e4,e3,e2,e1];simp[fctT]
   rw[e]
   generalize txt s.b true=tx at *
   simp[fc18_b3,rsS,evKC,evK,put,Env.get,Env.keep,Opd.ev,D.asInt?,clsP,cls,clsR,isCl,isW,apartRW,offB,apartWW,clash,insOk,mapO,D.refsL,D.refs,D.toksL,D.toks,D.ren,locD,below,Out.ren,List.map,binD_int,intBin,lx,la,hlt',ia,l0,hfr,hk1,b1,b2,b3,b4,b5])
  (fun t _=>by simp[fc18_b3,rsS,rsE,evKC,evK,put,Env.get,Env.keep,Opd.ev,mapO,D.ren,locD,below,Out.ren,List.map,binD_int,intBin,lx,la]) t (by omega)
theorem cat_srt{x:Spc}(h:PrOk x):(cat (fun _=>srtT) 0 (els x.s)).length≤400:=by
 have:=cat_len (g:=fun _=>srtT) (C:=100) (els x.s) 0 (fun _ s hs=>srtT_len h s hs)
 have:=h.ns;omega
theorem cat_fld{x:Spc}(h:PrOk x):(cat (fun _=>fldT (els x.s)) 0 (els x.f)).length≤1200:=by
 have:=cat_len (g:=fun _=>fldT (els x.s)) (C:=200) (els x.f) 0 (fun _ s hs=>fldT_len h s hs)
 have:=h.nf;omega
theorem cat_prd{x:Spc}(h:PrOk x):(cat (fun _=>prdT (els x.s)) 0 (els x.p)).length≤160000:=by
 have:=cat_len (g:=fun _=>prdT (els x.s)) (C:=20000) (els x.p) 0 (fun _ s hs=>prdT_len h s hs)
 have:=h.np;omega
theorem cat_fct{x:Spc}(h:PrOk x):(cat (fun _=>fctT) 0 (els x.q)).length≤320000:=by
 have:=cat_len (g:=fun _=>fctT) (C:=20000) (els x.q) 0 (fun _ s hs=>fctT_len h s hs)
 have:=h.nq;omega
theorem rspec_eq{x:Spc}(hx:PrOk x)(H:Hp):callD (call pg) 18 [.p x.pd] H=some (.val (.p (.str (spcT x))),H):=by
 have o1:=one_of (spc_one x)
 have l1:=rs_b0 hx [] (by simp)
 have c1:=cat_srt hx
 have c2:=cat_fld hx
 have c3:=cat_prd hx
 have l2:=rs_b1 hx (cat (fun _=>srtT) 0 (els x.s)) (by omega)
 have l3:=rs_b2 hx (cat (fun _=>srtT) 0 (els x.s)++cat (fun _=>fldT (els x.s)) 0 (els x.f)) (by simp;omega)
 have l4:=rs_b3 hx ((cat (fun _=>srtT) 0 (els x.s)++cat (fun _=>fldT (els x.s)) 0 (els x.f))++cat (fun _=>prdT (els x.s)) 0 (els x.p)) (by simp;omega)
 have e:spcT x=((cat (fun _=>srtT) 0 (els x.s)++cat (fun _=>fldT (els x.s)) 0 (els x.f))++cat (fun _=>prdT (els x.s)) 0 (els x.p))++cat (fun _=>fctT) 0 (els x.q):=rfl
 rw[←e] at l4
 refine callD_any (d:=.p (.str (spcT x))) ⟨⟨[x.cells.map .p],[]⟩,call_body (fc:=fc18) rfl rfl rfl rfl ?_⟩ rfl rfl rfl rfl H
 rw[List.nil_append] at l1
 generalize cat (fun _=>srtT) 0 (els x.s)=w1 at *
 generalize w1++cat (fun _=>fldT (els x.s)) 0 (els x.f)=w2 at *
 generalize w2++cat (fun _=>prdT (els x.s)) 0 (els x.p)=w3 at *
 generalize spcT x=w4 at *
 simp only[rsS,rsE,Int.natCast_zero] at l1 l2 l3 l4
 simp[fc18,evKC,evK,put,Env.get,Env.keep,entry,Opd.ev,finish,evRes,evRes1,D.cells,Spc.pd,o1,l1,l2,l3,l4]
def prG(i m1 m2:Nat)(f:Bool)(l:List UInt8):List D:=[if f then .fresh 78 4 i else .box i 0,.tsl 0 5 1 (bytesP l),.mapr m1,.mapr m2]
theorem refs_ps(l:List PD):D.refsL (l.map .p)=[]:=by induction l with |nil=>rfl |cons x l ih=>simp[D.refsL,D.refs,ih]
theorem toks_ps(l:List PD):D.toksL (l.map .p)=[]:=by induction l with |nil=>rfl |cons x l ih=>simp[D.toksL,D.toks,ih]
theorem reach_fix{H:Hp}{ids:List Nat}(h:ins ids (boxRefs H ids)=ids):∀n,reach H n ids=ids
 | 0=>rfl
 |n+1=>by
  simp only[reach]
  cases hb:boxRefs H ids with
  |nil=>rfl
  |cons a r=>rw[hb] at h;simp only[h];exact reach_fix (by rw[hb];exact h) n
theorem reach_two{H:Hp}{ids ids1 ids2:List Nat}(h0:ins ids (boxRefs H ids)=ids1)(h1:ins ids1 (boxRefs H ids1)=ids2)(h2:ins ids2 (boxRefs H ids2)=ids2)(n:Nat):reach H (n+2) ids=ids2:=by
 have e1:reach H (n+2) ids=reach H (n+1) ids1:=by
  rw[reach]
  cases hb:boxRefs H ids with
  |nil=>
   rw[hb] at h0
   simp only[ins] at h0
   subst h0
   exact(reach_fix (by rw[hb];rfl) (n+1)).symm
  |cons a r=>rw[hb] at h0;simp only[h0]
 have e2:reach H (n+1) ids1=reach H n ids2:=by
  rw[reach]
  cases hb:boxRefs H ids1 with
  |nil=>
   rw[hb] at h1
   simp only[ins] at h1
   subst h1
   exact(reach_fix (by rw[hb];rfl) n).symm
  |cons a r=>rw[hb] at h1;simp only[h1]
 rw[e1,e2];exact reach_fix h2 n
theorem set_self{α:Type}{l:List α}{i:Nat}{v:α}(h:l[i]? =some v):l.set i v=l:=by
 apply List.ext_getElem?
 intro j
 rw[List.getElem?_set]
 split
 ·next e=>
  subst e
  have:=(List.getElem?_eq_some_iff.1 h).1
  rw[if_pos this,h]
 ·rfl
theorem wstr_at{bx:List (List D)}{i m1 m2:Nat}{f:Bool}{l:List UInt8}(hi:bx[i]? =some (prG i m1 m2 f l))(h1:bx[m1]? =some (tabM binT))(h2:bx[m2]? =some (tabM preT))
    (d1:i≠m1) (d2:i≠m2) (d3:m1≠m2) (s:List UInt8) (hb:l.length+s.length≤140737488355328):
    callD (call pg) 49 [.box i 0,.p (.str s)] ⟨bx,[l.length]⟩=some (.val (.tup [.p (.int .i64 s.length),.p .nili]),⟨bx.set i (prG i m1 m2 false (l++s)),[(l++s).length]⟩):=by
 have z0:ins [] (D.refsL [D.box i 0,D.p (.str s)])=[i]:=by simp[D.refsL,D.refs,ins]
 have r0:D.refsL (prG i m1 m2 f l)=[i,m1,m2]:=by cases f<;>simp[prG,D.refsL,D.refs]
 have t0:D.toksL (prG i m1 m2 f l)=[0]:=by cases f<;>simp[prG,D.toksL,D.toks]
 have b1:boxRefs ⟨bx,[l.length]⟩ [i]=[i,m1,m2]:=by simp[boxRefs,hi,r0]
 have b2:boxRefs ⟨bx,[l.length]⟩ [i,m1,m2]=[i,m1,m2]:=by simp[boxRefs,hi,h1,h2,r0,refs_tab]
 have n1:ins [i] [i,m1,m2]=[i,m1,m2]:=by simp[ins,d1.symm,d2.symm,d3.symm]
 have n2:ins [i,m1,m2] [i,m1,m2]=[i,m1,m2]:=by simp[ins]
 have hlen:=(List.getElem?_eq_some_iff.1 hi).1
 obtain⟨k,hk⟩:∃k,bx.length=k+1:=⟨bx.length-1,by omega⟩
 have q1:reach ⟨bx,[l.length]⟩ (⟨bx,[l.length]⟩:Hp).bx.length (ins [] (D.refsL [D.box i 0,D.p (.str s)]))=[i,m1,m2]:=by
  rw[z0]
  show reach _ bx.length [i]=_
  rw[hk,reach,b1]
  simp only[n1]
  exact reach_fix (by rw[b2,n2]) k
 have q2:ins [] (D.toksL [D.box i 0,D.p (.str s)]++boxToks ⟨bx,[l.length]⟩ [i,m1,m2])=[0]:=by
  simp[boxToks,hi,h1,h2,t0,toks_tab,D.toksL,D.toks,ins]
 have k0:idx [i,m1,m2] i=some 0:=by simp[idx]
 have k1:idx [i,m1,m2] m1=some 1:=by simp[idx,d1]
 have k2:idx [i,m1,m2] m2=some 2:=by simp[idx,d2,d3]
 have kt:idx [0] 0=some 0:=rfl
 have q4:D.renL (idx [i,m1,m2]) (idx [0]) [D.box i 0,D.p (.str s)]=some [.box 0 0,.p (.str s)]:=by
  simp[D.renL,D.ren,k0]
 have q5:mapO (fun j=>match(⟨bx,[l.length]⟩:Hp).bx[j]? with |some cs=>D.renL (idx [i,m1,m2]) (idx [0]) cs |none=>none) [i,m1,m2]=some (pH f l []).bx:=by
  cases f<;>simp[mapO,hi,h1,h2,prG,pH,prC,ren_tab,D.renL,D.ren,k0,k1,k2,kt]
 have nd:(Vs.nodupB [i,m1,m2]&&Vs.nodupB [0])=true:=by simp[Vs.nodupB,d1,d2,d3]
 refine(callD_ofP [i,m1,m2] [0] q1 q2 nd q4 q5 rfl (wstr0 f l s hb)).trans ?_
 have p1:(bx.set i (prG i m1 m2 false (l++s))).set m1 (tabM binT)=bx.set i (prG i m1 m2 false (l++s)):=set_self (by rw[List.getElem?_set_ne d1];exact h1)
 have p2:(bx.set i (prG i m1 m2 false (l++s))).set m2 (tabM preT)=bx.set i (prG i m1 m2 false (l++s)):=set_self (by rw[List.getElem?_set_ne d2];exact h2)
 have p3:prG i m1 m2 false (l++s)=[.box i 0,.tsl 0 5 1 (bytesP (l++s)),.mapr m1,.mapr m2]:=rfl
 rw[p3] at p1 p2
 simp[back,firstN,mapO,pH,prC,prG,ren_tab,D.renL,D.ren,Res.ren,putAll,p1,p2]
theorem nm_call{x:Spc}{bx:List (List D)}{tk:List Nat}{j:Nat}(hj:bx[j]? =some (x.cells.map .p)){i:Int}(h0:0≤i)(h1:i<(els x.s).length):
    callD (call pg) 48 [.p (.int .i64 i),.box j 0] ⟨bx,tk⟩=some (.val (.p (.str (nmAt (els x.s) i))),⟨bx,tk⟩):=by
 have body:call pg 48 [.p (.int .i64 i),.box 0 0] ⟨[x.cells.map .p],[]⟩=some (.val (.p (.str (nmAt (els x.s) i))),⟨[x.cells.map .p],[]⟩):=by
  refine call_body (fc:=fc48) rfl rfl rfl rfl ?_
  have lx:=sp_at x
  have la:=len31 x.s
  have ia:=ia_srt h0 h1
  unfold nmAt
  generalize srtAt (els x.s) i.toNat=s at *
  have l0:=srt_l0 s
  have g1:¬i<0:=by omega
  have g2:¬((els x.s).length:Int)≤i:=by omega
  simp[fc48,evKC,evK,evGuard,put,Env.get,Env.keep,entry,Opd.ev,D.asInt?,binD,finish,evRes,evRes1,lx,la,ia,l0,g1,g2]
 have z0:ins [] (D.refsL [D.p (.int .i64 i),D.box j 0])=[j]:=by simp[D.refsL,D.refs,ins]
 have b1:boxRefs ⟨bx,tk⟩ [j]=[]:=by simp[boxRefs,hj]
 have q1:reach ⟨bx,tk⟩ (⟨bx,tk⟩:Hp).bx.length (ins [] (D.refsL [D.p (.int .i64 i),D.box j 0]))=[j]:=by
  rw[z0];exact reach_fix (by rw[b1];rfl) _
 have q2:ins [] (D.toksL [D.p (.int .i64 i),D.box j 0]++boxToks ⟨bx,tk⟩ [j])=[]:=by
  simp[boxToks,hj,D.toksL,D.toks,ins]
 have k0:idx [j] j=some 0:=by simp[idx]
 have q4:D.renL (idx [j]) (idx []) [D.p (.int .i64 i),D.box j 0]=some [.p (.int .i64 i),.box 0 0]:=by
  simp[D.renL,D.ren,k0]
 have q5:mapO (fun n=>match(⟨bx,tk⟩:Hp).bx[n]? with |some cs=>D.renL (idx [j]) (idx []) cs |none=>none) [j]=some [x.cells.map .p]:=by
  simp[mapO,hj,renL_p]
 refine(callD_ofP [j] [] q1 q2 (by simp[Vs.nodupB]) q4 q5 rfl body).trans ?_
 simp[back,firstN,mapO,renL_p,Res.ren,D.ren,putAll,set_self hj]
def xC(x:Spc):List D:=x.cells.map .p
theorem ren_xC(f g:Nat→Option Nat)(x:Spc):D.renL f g (xC x)=some (xC x):=renL_p ..
theorem refs_xC(x:Spc):D.refsL (xC x)=[]:=refs_ps _
theorem toks_xC(x:Spc):D.toksL (xC x)=[]:=toks_ps _
def CB(x:Spc)(f:Bool)(l:List UInt8):List (List D):=[[.box 2 0],[.fn 48 [] [.box 3 0]],prG 2 4 5 f l,xC x,tabM binT,tabM preT]
def BB(x:Spc)(f:Bool)(l:List UInt8):List (List D):=[prG 0 3 4 f l,[.box 0 0],[.fn 48 [] [.box 5 0]],tabM binT,tabM preT,xC x]
theorem C_write{x:Spc}{f:Bool}{l s u:List UInt8}(hu:u=l++s)(hb:u.length≤100000000)(r:List (List D)):
    callD (call pg) 49 [.box 2 0,.p (.str s)] ⟨CB x f l++r,[l.length]⟩=some (.val (.tup [.p (.int .i64 s.length),.p .nili]),⟨CB x false u++r,[u.length]⟩):=by
 subst hu
 exact wstr_at (bx:=CB x f l++r) (i:=2) (m1:=4) (m2:=5) rfl rfl rfl (by decide) (by decide) (by decide) s (by simp at hb;omega)
theorem B_write{x:Spc}{f:Bool}{l s u:List UInt8}(hu:u=l++s)(hb:u.length≤100000000)(r:List (List D)):
    callD (call pg) 49 [.box 0 0,.p (.str s)] ⟨BB x f l++r,[l.length]⟩=some (.val (.tup [.p (.int .i64 s.length),.p .nili]),⟨BB x false u++r,[u.length]⟩):=by
 subst hu
 exact wstr_at (bx:=BB x f l++r) (i:=0) (m1:=3) (m2:=4) rfl rfl rfl (by decide) (by decide) (by decide) s (by simp at hb;omega)
theorem C51{x:Spc}{i:Int}(h0:0≤i)(h1:i<(els x.s).length){f:Bool}{l u:List UInt8}(hu:u=l++nmAt (els x.s) i)(hb:u.length≤100000000):
    call pg 51 [.p (.int .i64 i),.box 0 0,.box 1 0] ⟨CB x f l,[l.length]⟩=some (.val .undef,⟨CB x false u,[u.length]⟩):=by
 have w:=C_write (x:=x) (f:=f) hu hb []
 have n:=fun tk=>nm_call (x:=x) (bx:=CB x f l) (tk:=tk) (j:=3) rfl h0 h1
 simp only[List.append_nil] at w
 have l0:∀(G:Nat→Option (List PD)) tk,loadD G ⟨CB x f l,tk⟩ none (.box 0 0)=some (.box 2 0):=fun _ _=>rfl
 have l1:∀(G:Nat→Option (List PD)) tk,loadD G ⟨CB x f l,tk⟩ none (.box 1 0)=some (.fn 48 [] [.box 3 0]):=fun _ _=>rfl
 refine call_body (fc:=fc51) rfl rfl rfl rfl ?_
 simp[fc51,evKC,evK,put,Env.get,Env.keep,entry,Opd.ev,clsP,cls,clsR,isCl,isW,apartRW,offB,apartWW,clash,insOk,finish,evRes,D.refsL,D.refs,D.toksL,D.toks,callV,l0,l1,n,w]
theorem C53{x:Spc}{p:Prm}(h0:0≤p.s)(h1:p.s<(els x.s).length){f:Bool}{l u:List UInt8}(hu:u=l++prmT (els x.s) p)(hb:u.length≤100000000):
    ∃ex,call pg 53 [.p p.pd,.box 0 0,.box 1 0] ⟨CB x f l,[l.length]⟩=some (.val .undef,⟨CB x false u++ex,[u.length]⟩):=by
 have hlu:u.length=l.length+(prmT (els x.s) p).length:=by rw[hu];simp
 have hp:(prmT (els x.s) p).length=p.nm.length+(2+(nmAt (els x.s) p.s).length):=by simp[prmT];omega
 obtain⟨u1,e1,n1,b1⟩:=addU (a:=p.nm) (b:=[58,32]) (by simp;omega)
 simp only[List.length_cons,List.length_nil] at n1
 obtain⟨u2,e2,n2,b2⟩:=addU (a:=u1) (b:=nmAt (els x.s) p.s) (by omega)
 have e:prmT (els x.s) p=u2:=by rw[e2,e1];simp[prmT]
 rw[e] at hu
 have w:=C_write (x:=x) (f:=f) hu hb [p.cells.map .p]
 have n:=fun tk=>nm_call (x:=x) (bx:=CB x f l++[p.cells.map .p]) (tk:=tk) (j:=3) rfl h0 h1
 have l0:∀(G:Nat→Option (List PD)) tk,loadD G ⟨CB x f l++[p.cells.map .p],tk⟩ none (.box 0 0)=some (.box 2 0):=fun _ _=>rfl
 have l1:∀(G:Nat→Option (List PD)) tk,loadD G ⟨CB x f l++[p.cells.map .p],tk⟩ none (.box 1 0)=some (.fn 48 [] [.box 3 0]):=fun _ _=>rfl
 have l2:∀(G:Nat→Option (List PD)) tk,loadD G ⟨CB x f l++[p.cells.map .p],tk⟩ none (.box 6 0)=some (.p (.str p.nm)):=fun _ _=>rfl
 have l3:∀(G:Nat→Option (List PD)) tk,loadD G ⟨CB x f l++[p.cells.map .p],tk⟩ none (.box 6 1)=some (.p (.int .i64 p.s)):=fun _ _=>rfl
 have ln:(CB x f l).length=6:=rfl
 refine⟨[p.cells.map .p],call_body (fc:=fc53) rfl rfl rfl rfl ?_⟩
 have hpd:p.pd= .agg p.cells:=rfl
 have o1:(∀x,x∈p.cells→(D.p x).one=true)=True:=one_of fun c hc=>by
  simp only[Prm.cells,List.mem_cons,List.not_mem_nil,or_false] at hc
  rcases hc with rfl |rfl<;>rfl
 rw[hpd]
 generalize CB x f l=cb at *
 simp[fc53,evKC,evK,put,Env.get,Env.keep,entry,Opd.ev,clsP,cls,clsR,isCl,isW,apartRW,offB,apartWW,clash,insOk,finish,evRes,D.cells,D.refsL,D.refs,D.toksL,D.toks,callV,o1,ln,l0,l1,l2,l3,n,b1,b2,w]
theorem B_call{g:Nat}{a:PD}{x:Spc}{f f':Bool}{l u:List UInt8}{ex:List (List D)}(h:call pg g [.p a,.box 0 0,.box 1 0] ⟨CB x f l,[l.length]⟩=some (.val .undef,⟨CB x f' u++ex,[u.length]⟩))(r:List (List D)):
    callD (call pg) g [.p a,.box 1 0,.box 2 0] ⟨BB x f l++r,[l.length]⟩=some (.val .undef,⟨BB x f' u++r,[u.length]⟩):=by
 have z0:ins [] (D.refsL [D.p a,D.box 1 0,D.box 2 0])=[1,2]:=by simp[D.refsL,D.refs,ins]
 have r0:D.refsL (prG 0 3 4 f l)=[0,3,4]:=by cases f<;>simp[prG,D.refsL,D.refs]
 have t0:D.toksL (prG 0 3 4 f l)=[0]:=by cases f<;>simp[prG,D.toksL,D.toks]
 have g0:(BB x f l++r)[0]? =some (prG 0 3 4 f l):=rfl
 have g1:(BB x f l++r)[1]? =some [.box 0 0]:=rfl
 have g2:(BB x f l++r)[2]? =some [.fn 48 [] [.box 5 0]]:=rfl
 have g3:(BB x f l++r)[3]? =some (tabM binT):=rfl
 have g4:(BB x f l++r)[4]? =some (tabM preT):=rfl
 have g5:(BB x f l++r)[5]? =some (xC x):=rfl
 have q1:reach ⟨BB x f l++r,[l.length]⟩ (⟨BB x f l++r,[l.length]⟩:Hp).bx.length (ins [] (D.refsL [D.p a,D.box 1 0,D.box 2 0]))=[1,2,0,5,3,4]:=by
  rw[z0]
  have hn:(⟨BB x f l++r,[l.length]⟩:Hp).bx.length=(4+r.length)+2:=by simp[BB];omega
  rw[hn]
  refine reach_two (ids1:=[1,2,0,5]) ?_ ?_ ?_ _<;>simp[boxRefs,g0,g1,g2,g3,g4,g5,r0,refs_tab,refs_xC,D.refsL,D.refs,ins]
 have q2:ins [] (D.toksL [D.p a,D.box 1 0,D.box 2 0]++boxToks ⟨BB x f l++r,[l.length]⟩ [1,2,0,5,3,4])=[0]:=by
  simp[boxToks,g0,g1,g2,g3,g4,g5,t0,toks_tab,toks_xC,D.toksL,D.toks,ins]
 have k0:idx [1,2,0,5,3,4] 0=some 2:=rfl
 have k1:idx [1,2,0,5,3,4] 1=some 0:=rfl
 have k2:idx [1,2,0,5,3,4] 2=some 1:=rfl
 have k3:idx [1,2,0,5,3,4] 3=some 4:=rfl
 have k4:idx [1,2,0,5,3,4] 4=some 5:=rfl
 have k5:idx [1,2,0,5,3,4] 5=some 3:=rfl
 have kt:idx [0] 0=some 0:=rfl
 have q4:D.renL (idx [1,2,0,5,3,4]) (idx [0]) [D.p a,D.box 1 0,D.box 2 0]=some [.p a,.box 0 0,.box 1 0]:=by
  simp[D.renL,D.ren,k1,k2]
 have q5:mapO (fun j=>match(⟨BB x f l++r,[l.length]⟩:Hp).bx[j]? with |some cs=>D.renL (idx [1,2,0,5,3,4]) (idx [0]) cs |none=>none) [1,2,0,5,3,4]=some (CB x f l):=by
  cases f<;>simp[mapO,g0,g1,g2,g3,g4,g5,CB,prG,ren_tab,ren_xC,D.renL,D.ren,k0,k3,k4,k5,kt]
 refine(callD_ofP [1,2,0,5,3,4] [0] q1 q2 rfl q4 q5 rfl h).trans ?_
 have tk6:List.take 6 (CB x f' u++ex)=CB x f' u:=rfl
 cases f'<;>simp[back,firstN,mapO,CB,BB,prG,ren_tab,ren_xC,D.renL,D.ren,Res.ren,putAll]
theorem B51{x:Spc}{i:Int}(h0:0≤i)(h1:i<(els x.s).length){f:Bool}{l u:List UInt8}(hu:u=l++nmAt (els x.s) i)(hb:u.length≤100000000)(r:List (List D)):
    callD (call pg) 51 [.p (.int .i64 i),.box 1 0,.box 2 0] ⟨BB x f l++r,[l.length]⟩=some (.val .undef,⟨BB x false u++r,[u.length]⟩):=
 B_call (ex:=[]) (by rw[List.append_nil];exact C51 h0 h1 hu hb) r
theorem B53{x:Spc}{p:Prm}(h0:0≤p.s)(h1:p.s<(els x.s).length){f:Bool}{l u:List UInt8}(hu:u=l++prmT (els x.s) p)(hb:u.length≤100000000)(r:List (List D)):
    callD (call pg) 53 [.p p.pd,.box 1 0,.box 2 0] ⟨BB x f l++r,[l.length]⟩=some (.val .undef,⟨BB x false u++r,[u.length]⟩):=by
 obtain⟨ex,h⟩:=C53 h0 h1 (f:=f) hu hb
 exact B_call h r
@[simp] theorem BB_len(x:Spc)(f:Bool)(l:List UInt8):(BB x f l).length=6:=rfl
@[simp] theorem BB_ren(x:Spc)(f:Bool)(l:List UInt8):mapO (D.renL (below 6) (below 1)) (BB x f l)=some (BB x f l):=by
 cases f<;>simp[BB,prG,mapO,ren_tab,ren_xC,D.renL,D.ren,below]
@[simp] theorem BB_take(x:Spc)(f:Bool)(l:List UInt8):List.take 6 (BB x f l)=BB x f l:=rfl
@[simp] theorem BB_take1(x:Spc)(f:Bool)(l:List UInt8)(r:List (List D)):List.take 6 (BB x f l++r)=BB x f l:=rfl
def lsS(x:Spc)(sep:List UInt8)(li:PD)(n c k:Nat)(t:List UInt8):St:=⟨[(0,.box 0 0),(2,.p (.str sep)),(3,.fn c [] [.box 1 0,.box 2 0]),(10,.p li),(11,.p (.int .i64 (n:Nat))),(12,.p (.int .i64 (k:Nat)))],⟨BB x false t,[t.length]⟩⟩
def lsE(x:Spc)(sep:List UInt8)(li:PD)(n c k:Nat)(t:List UInt8):St:=⟨[(0,.box 0 0),(2,.p (.str sep)),(3,.fn c [] [.box 1 0,.box 2 0]),(10,.p li),(11,.p (.int .i64 (n:Nat))),(12,.p (.int .i64 (k:Nat))),(13,.p (.bool false))],⟨BB x false t,[t.length]⟩⟩
theorem list50{x:Spc}(hx:PrOk x){l:Sl Int}(hl:(els l).length≤3)(hi:∀i∈els l,0≤i∧i<(els x.s).length)(t:List UInt8)(ht:t.length≤1000000):
    call pg 50 [.box 0 0,.p (intsP l),.p (.str [32,45,62,32]),.fn 51 [] [.box 1 0,.box 2 0]] ⟨BB x false t,[t.length]⟩=some (.val .undef,⟨BB x false (t++cat (sepg [32,45,62,32] (nmAt (els x.s))) 0 (els l)),[(t++cat (sepg [32,45,62,32] (nmAt (els x.s))) 0 (els l)).length]⟩):=by
 have la:=len27 l
 have ol:(PD.one (intsP l))=true:=pone_slP ..
 have od:(D.one (.p (intsP l)))=true:=one_slP ..
 have loop:=acc_loop (g:=sepg [32,45,62,32] (nmAt (els x.s))) (a:=els l) (vs:=[0,2,3,10,11,12]) (body:=fc50_b0) (S:=lsS x [32,45,62,32] (intsP l) (els l).length 51) (F:=lsE x [32,45,62,32] (intsP l) (els l).length 51 (els l).length) (e:=0) 20 2000000 (fun _ _=>rfl)
  (fun k i _=>by
   have:=nmAt_len hx i
   unfold sepg
   split<;>simp<;>omega)
  (fun k h t hb=>by
   have hlt':(k:Int)<((els l).length:Int):=by omega
   have ia:=ia27 h
   have hk1:=inc64 (k:=k) (by omega)
   have hii:=hi _ (List.getElem_mem h)
   generalize (els l)[k]=i at *
   have hnl:=nmAt_len hx i
   unfold sepg
   have r0:∀(G:Nat→Option (List PD)) (H:Hp),loadD G H none (.ro (intCells i) 0)=some (.p (.int .i64 i)):=fun _ _=>rfl
   by_cases h0:0<k
   ·have h0':(0 :Int)<(k:Int):=by omega
    obtain⟨u1,e1,n1⟩:∃u,u=t++[32,45,62,32]∧u.length=t.length+4:=⟨_,rfl,by simp⟩
    obtain⟨u2,e2,n2⟩:∃u,u=u1++nmAt (els x.s) i∧u.length=u1.length+(nmAt (els x.s) i).length:=⟨_,rfl,by simp⟩
    have w1:=B_write (x:=x) (f:=false) e1 (by omega) []
    have w2:=B51 hii.1 hii.2 (f:=false) e2 (by omega) []
    simp only[List.append_nil] at w1 w2
    have e:t++((if 0<k then[32,45,62,32] else[])++nmAt (els x.s) i)=u2:=by rw[if_pos h0,e2,e1];simp
    rw[e]
    simp[fc50_b0,lsS,evKC,evK,put,Env.get,Env.keep,Opd.ev,D.asInt?,binD,D.renL,D.ren,locD,below,Out.ren,List.map,callV,hlt',ia,r0,h0,hk1,w1,w2]
   ·have h0':¬(0 :Int)<(k:Int):=by omega
    obtain⟨u2,e2,n2⟩:∃u,u=t++nmAt (els x.s) i∧u.length=t.length+(nmAt (els x.s) i).length:=⟨_,rfl,by simp⟩
    have w2:=B51 hii.1 hii.2 (f:=false) e2 (by omega) []
    simp only[List.append_nil] at w2
    have e:t++((if 0<k then[32,45,62,32] else[])++nmAt (els x.s) i)=u2:=by rw[if_neg h0,e2];simp
    rw[e]
    simp[fc50_b0,lsS,evKC,evK,put,Env.get,Env.keep,Opd.ev,D.asInt?,binD,D.renL,D.ren,locD,below,Out.ren,List.map,callV,hlt',ia,r0,h0,hk1,w2])
  (fun t _=>by simp[fc50_b0,lsS,lsE,evKC,evK,put,Env.get,Env.keep,Opd.ev,binD,D.renL,D.ren,locD,below,Out.ren,List.map]) t (by omega)
 refine call_body (fc:=fc50) rfl rfl rfl rfl ?_
 generalize t++cat (sepg [32,45,62,32] (nmAt (els x.s))) 0 (els l)=u at *
 simp only[lsS,lsE,Int.natCast_zero] at loop
 simp[fc50,evKC,evK,put,Env.get,Env.keep,entry,Opd.ev,finish,evRes,la,loop]
theorem list52{x:Spc}(hx:PrOk x){l:Sl Prm}(hl:(els l).length≤20)(hi:∀q∈els l,q.nm.length≤16∧0≤q.s∧q.s<(els x.s).length)(t:List UInt8)(ht:t.length≤1000000):
    call pg 52 [.box 0 0,.p (prmsP l),.p (.str [44,32]),.fn 53 [] [.box 1 0,.box 2 0]] ⟨BB x false t,[t.length]⟩=some (.val .undef,⟨BB x false (t++cat (sepg [44,32] (prmT (els x.s))) 0 (els l)),[(t++cat (sepg [44,32] (prmT (els x.s))) 0 (els l)).length]⟩):=by
 have la:=len29 l
 have ol:(PD.one (prmsP l))=true:=pone_slP ..
 have od:(D.one (.p (prmsP l)))=true:=one_slP ..
 have loop:=acc_loop (g:=sepg [44,32] (prmT (els x.s))) (a:=els l) (vs:=[0,2,3,10,11,12]) (body:=fc52_b0) (S:=lsS x [44,32] (prmsP l) (els l).length 53) (F:=lsE x [44,32] (prmsP l) (els l).length 53 (els l).length) (e:=0) 50 2000000 (fun _ _=>rfl)
  (fun k i hii=>by
   have:=prmT_len hx (hi i hii).1
   unfold sepg
   split<;>simp<;>omega)
  (fun k h t hb=>by
   have hlt':(k:Int)<((els l).length:Int):=by omega
   have ia:=ia29 h
   have hk1:=inc64 (k:=k) (by omega)
   have hii:=hi _ (List.getElem_mem h)
   generalize (els l)[k]=i at *
   have hnl:=prmT_len hx hii.1
   unfold sepg
   have r0:∀(G:Nat→Option (List PD)) (H:Hp),loadD G H (some 2) (.ro i.cells 0)=some (.p i.pd):=fun _ _=>load_ro rfl
   have o1:(∀x,x∈i.cells→(D.p x).one=true)=True:=one_of fun c hc=>by
    simp only[Prm.cells,List.mem_cons,List.not_mem_nil,or_false] at hc
    rcases hc with rfl |rfl<;>rfl
   have st:∀tk,storeD ⟨BB x false t++[[.p (.str []),.p (.int .i64 0)]],tk⟩ 2 (.box 6 0) (.p i.pd)=some ⟨BB x false t++[i.cells.map .p],tk⟩:=fun tk=>by
    have g6:(BB x false t++[[D.p (.str []),.p (.int .i64 0)]])[6]? =some [D.p (.str []),.p (.int .i64 0)]:=rfl
    have s6:∀c:List D,(BB x false t++[[D.p (.str []),.p (.int .i64 0)]]).set 6 c=BB x false t++[c]:=fun c=>rfl
    have h2:i.cells.length=2:=rfl
    simp only[storeD,g6,s6]
    simp[Prm.pd,D.cells,splice,isMapC,o1,h2]
   have ld:∀(G:Nat→Option (List PD)) (v:List UInt8) tk,loadD G ⟨BB x false v++[i.cells.map .p],tk⟩ (some 2) (.box 6 0)=some (.p i.pd):=fun _ _ _=>load_box rfl rfl
   by_cases h0:0<k
   ·have h0':(0 :Int)<(k:Int):=by omega
    obtain⟨u1,e1,n1⟩:∃u,u=t++[44,32]∧u.length=t.length+2:=⟨_,rfl,by simp⟩
    obtain⟨u2,e2,n2⟩:∃u,u=u1++prmT (els x.s) i∧u.length=u1.length+(prmT (els x.s) i).length:=⟨_,rfl,by simp⟩
    have w1:=B_write (x:=x) (f:=false) e1 (by omega) [i.cells.map .p]
    have w2:=B53 hii.2.1 hii.2.2 (f:=false) e2 (by omega) [i.cells.map .p]
    have e:t++((if 0<k then[44,32] else[])++prmT (els x.s) i)=u2:=by rw[if_pos h0,e2,e1];simp
    rw[e]
    simp[fc52_b0,lsS,evKC,evK,put,Env.get,Env.keep,Opd.ev,D.asInt?,binD,D.renL,D.ren,locD,below,Out.ren,List.map,callV,hlt',ia,r0,h0,hk1,w1,w2,st,ld]
   ·have h0':¬(0 :Int)<(k:Int):=by omega
    obtain⟨u2,e2,n2⟩:∃u,u=t++prmT (els x.s) i∧u.length=t.length+(prmT (els x.s) i).length:=⟨_,rfl,by simp⟩
    have w2:=B53 hii.2.1 hii.2.2 (f:=false) e2 (by omega) [i.cells.map .p]
    have e:t++((if 0<k then[44,32] else[])++prmT (els x.s) i)=u2:=by rw[if_neg h0,e2];simp
    rw[e]
    simp[fc52_b0,lsS,evKC,evK,put,Env.get,Env.keep,Opd.ev,D.asInt?,binD,D.renL,D.ren,locD,below,Out.ren,List.map,callV,hlt',ia,r0,h0,hk1,w2,st,ld])
  (fun t _=>by simp[fc52_b0,lsS,lsE,evKC,evK,put,Env.get,Env.keep,Opd.ev,binD,D.renL,D.ren,locD,below,Out.ren,List.map]) t (by omega)
 refine call_body (fc:=fc52) rfl rfl rfl rfl ?_
 generalize t++cat (sepg [44,32] (prmT (els x.s))) 0 (els l)=u at *
 simp only[lsS,lsE,Int.natCast_zero] at loop
 simp[fc52,evKC,evK,put,Env.get,Env.keep,entry,Opd.ev,finish,evRes,la,loop]
def AA(x:Spc)(f:Bool)(l:List UInt8):List (List D):=[xC x,tabM binT,tabM preT,prG 3 1 2 f l,[.box 3 0],[.fn 48 [] [.box 0 0]]]
@[simp] theorem AA_len(x:Spc)(f:Bool)(l:List UInt8):(AA x f l).length=6:=rfl
@[simp] theorem AA_ren(x:Spc)(f:Bool)(l:List UInt8):mapO (D.renL (below 6) (below 1)) (AA x f l)=some (AA x f l):=by
 cases f<;>simp[AA,prG,mapO,ren_tab,ren_xC,D.renL,D.ren,below]
@[simp] theorem AA_take(x:Spc)(f:Bool)(l:List UInt8):List.take 6 (AA x f l)=AA x f l:=rfl
@[simp] theorem AA_take1(x:Spc)(f:Bool)(l:List UInt8)(r:List (List D)):List.take 6 (AA x f l++r)=AA x f l:=rfl
theorem A_write{x:Spc}{f:Bool}{l s u:List UInt8}(hu:u=l++s)(hb:u.length≤100000000)(r:List (List D)):
    callD (call pg) 49 [.box 3 0,.p (.str s)] ⟨AA x f l++r,[l.length]⟩=some (.val (.tup [.p (.int .i64 s.length),.p .nili]),⟨AA x false u++r,[u.length]⟩):=by
 subst hu
 exact wstr_at (bx:=AA x f l++r) (i:=3) (m1:=1) (m2:=2) rfl rfl rfl (by decide) (by decide) (by decide) s (by simp at hb;omega)
theorem A_str{x:Spc}{f:Bool}{l:List UInt8}(hb:l.length≤140737488355328):
    callD (call pg) 41 [.box 3 0] ⟨AA x f l,[l.length]⟩=some (.val (.p (.str l)),⟨AA x f l,[l.length]⟩):=by
 have z0:ins [] (D.refsL [D.box 3 0])=[3]:=by simp[D.refsL,D.refs,ins]
 have r0:D.refsL (prG 3 1 2 f l)=[3,1,2]:=by cases f<;>simp[prG,D.refsL,D.refs]
 have t0:D.toksL (prG 3 1 2 f l)=[0]:=by cases f<;>simp[prG,D.toksL,D.toks]
 have g1:(AA x f l)[1]? =some (tabM binT):=rfl
 have g2:(AA x f l)[2]? =some (tabM preT):=rfl
 have g3:(AA x f l)[3]? =some (prG 3 1 2 f l):=rfl
 have q1:reach ⟨AA x f l,[l.length]⟩ (⟨AA x f l,[l.length]⟩:Hp).bx.length (ins [] (D.refsL [D.box 3 0]))=[3,1,2]:=by
  rw[z0]
  refine reach_two (n:=4) (ids1:=[3,1,2]) ?_ ?_ ?_ <;>simp[boxRefs,g1,g2,g3,r0,refs_tab,ins]
 have q2:ins [] (D.toksL [D.box 3 0]++boxToks ⟨AA x f l,[l.length]⟩ [3,1,2])=[0]:=by
  simp[boxToks,g1,g2,g3,t0,toks_tab,D.toksL,D.toks,ins]
 have k3:idx [3,1,2] 3=some 0:=rfl
 have k1:idx [3,1,2] 1=some 1:=rfl
 have k2:idx [3,1,2] 2=some 2:=rfl
 have kt:idx [0] 0=some 0:=rfl
 have q4:D.renL (idx [3,1,2]) (idx [0]) [D.box 3 0]=some [.box 0 0]:=by simp[D.renL,D.ren,k3]
 have q5:mapO (fun j=>match(⟨AA x f l,[l.length]⟩:Hp).bx[j]? with |some cs=>D.renL (idx [3,1,2]) (idx [0]) cs |none=>none) [3,1,2]=some (pH f l []).bx:=by
  cases f<;>simp[mapO,g1,g2,g3,prG,pH,prC,ren_tab,D.renL,D.ren,k1,k2,k3,kt]
 refine(callD_ofP [3,1,2] [0] q1 q2 rfl q4 q5 rfl (bstr0 f l hb)).trans ?_
 cases f<;>simp[back,firstN,mapO,AA,pH,prC,prG,ren_tab,D.renL,D.ren,Res.ren,putAll]
theorem A_list{g c:Nat}{x:Spc}{li:PD}{sep t u:List UInt8}(h:call pg g [.box 0 0,.p li,.p (.str sep),.fn c [] [.box 1 0,.box 2 0]] ⟨BB x false t,[t.length]⟩=some (.val .undef,⟨BB x false u,[u.length]⟩))(r:List (List D)):
    callD (call pg) g [.box 3 0,.p li,.p (.str sep),.fn c [] [.box 4 0,.box 5 0]] ⟨AA x false t++r,[t.length]⟩=some (.val .undef,⟨AA x false u++r,[u.length]⟩):=by
 have z0:ins [] (D.refsL [D.box 3 0,.p li,.p (.str sep),.fn c [] [.box 4 0,.box 5 0]])=[3,4,5]:=by simp[D.refsL,D.refs,ins]
 have r0:D.refsL (prG 3 1 2 false t)=[3,1,2]:=by simp[prG,D.refsL,D.refs]
 have t0:D.toksL (prG 3 1 2 false t)=[0]:=by simp[prG,D.toksL,D.toks]
 have g0:(AA x false t++r)[0]? =some (xC x):=rfl
 have g1:(AA x false t++r)[1]? =some (tabM binT):=rfl
 have g2:(AA x false t++r)[2]? =some (tabM preT):=rfl
 have g3:(AA x false t++r)[3]? =some (prG 3 1 2 false t):=rfl
 have g4:(AA x false t++r)[4]? =some [.box 3 0]:=rfl
 have g5:(AA x false t++r)[5]? =some [.fn 48 [] [.box 0 0]]:=rfl
 have q1:reach ⟨AA x false t++r,[t.length]⟩ (⟨AA x false t++r,[t.length]⟩:Hp).bx.length (ins [] (D.refsL [D.box 3 0,.p li,.p (.str sep),.fn c [] [.box 4 0,.box 5 0]]))=[3,4,5,1,2,0]:=by
  rw[z0]
  have hn:(⟨AA x false t++r,[t.length]⟩:Hp).bx.length=(4+r.length)+2:=by simp[AA];omega
  rw[hn]
  refine reach_two (ids1:=[3,4,5,1,2,0]) ?_ ?_ ?_ _<;>simp[boxRefs,g0,g1,g2,g3,g4,g5,r0,refs_tab,refs_xC,D.refsL,D.refs,ins]
 have q2:ins [] (D.toksL [D.box 3 0,.p li,.p (.str sep),.fn c [] [.box 4 0,.box 5 0]]++boxToks ⟨AA x false t++r,[t.length]⟩ [3,4,5,1,2,0])=[0]:=by
  simp[boxToks,g0,g1,g2,g3,g4,g5,t0,toks_tab,toks_xC,D.toksL,D.toks,ins]
 have k0:idx [3,4,5,1,2,0] 0=some 5:=rfl
 have k1:idx [3,4,5,1,2,0] 1=some 3:=rfl
 have k2:idx [3,4,5,1,2,0] 2=some 4:=rfl
 have k3:idx [3,4,5,1,2,0] 3=some 0:=rfl
 have k4:idx [3,4,5,1,2,0] 4=some 1:=rfl
 have k5:idx [3,4,5,1,2,0] 5=some 2:=rfl
 have kt:idx [0] 0=some 0:=rfl
 have q4:D.renL (idx [3,4,5,1,2,0]) (idx [0]) [D.box 3 0,.p li,.p (.str sep),.fn c [] [.box 4 0,.box 5 0]]=some [.box 0 0,.p li,.p (.str sep),.fn c [] [.box 1 0,.box 2 0]]:=by
  simp[D.renL,D.ren,k3,k4,k5]
 have q5:mapO (fun j=>match(⟨AA x false t++r,[t.length]⟩:Hp).bx[j]? with |some cs=>D.renL (idx [3,4,5,1,2,0]) (idx [0]) cs |none=>none) [3,4,5,1,2,0]=some (BB x false t):=by
  simp[mapO,g0,g1,g2,g3,g4,g5,BB,prG,ren_tab,ren_xC,D.renL,D.ren,k0,k1,k2,k3,kt]
 refine(callD_ofP [3,4,5,1,2,0] [0] q1 q2 rfl q4 q5 rfl h).trans ?_
 simp[back,firstN,mapO,AA,BB,prG,ren_tab,ren_xC,D.renL,D.ren,Res.ren,putAll]
theorem A_list50{x:Spc}(hx:PrOk x){l:Sl Int}(hl:(els l).length≤3)(hi:∀i∈els l,0≤i∧i<(els x.s).length){t u:List UInt8}(ht:t.length≤1000000)(hu:u=t++cat (sepg [32,45,62,32] (nmAt (els x.s))) 0 (els l))(r:List (List D)):
    callD (call pg) 50 [.box 3 0,.p (intsP l),.p (.str [32,45,62,32]),.fn 51 [] [.box 4 0,.box 5 0]] ⟨AA x false t++r,[t.length]⟩=some (.val .undef,⟨AA x false u++r,[u.length]⟩):=by
 subst hu;exact A_list (list50 hx hl hi t ht) r
theorem A_list52{x:Spc}(hx:PrOk x){l:Sl Prm}(hl:(els l).length≤20)(hi:∀q∈els l,q.nm.length≤16∧0≤q.s∧q.s<(els x.s).length){t u:List UInt8}(ht:t.length≤1000000)(hu:u=t++cat (sepg [44,32] (prmT (els x.s))) 0 (els l))(r:List (List D)):
    callD (call pg) 52 [.box 3 0,.p (prmsP l),.p (.str [44,32]),.fn 53 [] [.box 4 0,.box 5 0]] ⟨AA x false t++r,[t.length]⟩=some (.val .undef,⟨AA x false u++r,[u.length]⟩):=by
 subst hu;exact A_list (list52 hx hl hi t ht) r
theorem A_ld(x:Spc)(f:Bool)(l:List UInt8)(r:List (List D))(G:Nat→Option (List PD))(tk:List Nat):
    loadD G ⟨AA x f l++r,tk⟩ none (.box 4 0)=some (.box 3 0)∧loadD G ⟨AA x f l++r,tk⟩ none (.box 5 0)=some (.fn 48 [] [.box 0 0])∧
    loadD G ⟨AA x f l++r,tk⟩ none (.box 0 0)=some (.p (srtsP x.s))∧loadD G ⟨AA x f l++r,tk⟩ none (.box 0 1)=some (.p (fldsP x.f))∧
    loadD G ⟨AA x f l++r,tk⟩ none (.box 0 2)=some (.p (prdsP x.p))∧loadD G ⟨AA x f l++r,tk⟩ none (.box 0 3)=some (.p (fctsP x.q)):=⟨rfl,rfl,rfl,rfl,rfl,rfl⟩
theorem A_store(x:Spc)(f:Bool)(l:List UInt8)(tk:List Nat)(z:List D){cs:List PD}{n:Nat}(hz:z.length=n)(hm:isMapC z=false)(hn:cs.length=n)(h0:0<n)(ho:(∀x,x∈cs→(D.p x).one=true)=True):
    storeD ⟨AA x f l++[z],tk⟩ n (.box 6 0) (.p (.agg cs))=some ⟨AA x f l++[cs.map .p],tk⟩:=by
 have g6:(AA x f l++[z])[6]? =some z:=rfl
 have s6:∀c:List D,(AA x f l++[z]).set 6 c=AA x f l++[c]:=fun c=>rfl
 simp only[storeD,g6,s6]
 subst hz
 simp[D.cells,splice,hm,hn,h0,ho]
def adS(x:Spc)(li:PD)(a n k v:Nat)(t:List UInt8):St:=⟨[(1,.box 0 0),(3,.box 4 0),(4,.box 5 0),(a,.p li),(n,.p (.int .i64 (v:Nat))),(n+1,.p (.int .i64 (k:Nat)))],⟨AA x t.isEmpty t,[t.length]⟩⟩
def adE(x:Spc)(li:PD)(a n k v:Nat)(t:List UInt8):St:=⟨[(1,.box 0 0),(3,.box 4 0),(4,.box 5 0),(a,.p li),(n,.p (.int .i64 (v:Nat))),(n+1,.p (.int .i64 (k:Nat))),(n+2,.p (.bool false))],⟨AA x t.isEmpty t,[t.length]⟩⟩
theorem ne_app{a b u:List UInt8}(h:u=a++b)(hb:b≠[]):u.isEmpty=false:=by
 subst h
 cases a<;>cases b<;>simp_all
theorem lit_ne{a:UInt8}{r:List UInt8}:a::r≠[]:=by simp
theorem ps_b0{x:Spc}(hx:PrOk x)(t:List UInt8)(ht:t.length≤1000000):loopK (call pg) pg.G [1,3,4,16,17,18] fc17_b0 (adS x (srtsP x.s) 16 17 0 (els x.s).length t)=some (.exit 0,adE x (srtsP x.s) 16 17 (els x.s).length (els x.s).length (t++cat (fun _=>srtT) 0 (els x.s))):=by
 have la:=len31 x.s
 have hns:=hx.ns
 have ol:(PD.one (srtsP x.s))=true:=pone_slP ..
 have od:(D.one (.p (srtsP x.s)))=true:=one_slP ..
 have al:=fun f l r=>A_ld x f l r
 exact acc_loop (g:=fun _=>srtT) (a:=els x.s) (vs:=[1,3,4,16,17,18]) (body:=fc17_b0) (S:=fun k t=>adS x (srtsP x.s) 16 17 k (els x.s).length t) (F:=fun t=>adE x (srtsP x.s) 16 17 (els x.s).length (els x.s).length t) (e:=0) 100 2000000 (fun _ _=>rfl)
  (fun _ s hs=>srtT_len hx s hs)
  (fun k h t hb=>by
   have hlt':(k:Int)<((els x.s).length:Int):=by omega
   have ia:=ia31 h
   have hk1:=inc64 (k:=k) (by omega)
   have hl:=hx.s _ (List.getElem_mem h)
   generalize (els x.s)[k]=s at *
   have l0:∀(G:Nat→Option (List PD)) (H:Hp),loadD G H (some 2) (.ro s.cells 0)=some (.p (.agg s.cells)):=fun _ _=>load_ro rfl
   have o1:(∀x,x∈s.cells→(D.p x).one=true)=True:=one_of fun c hc=>by
    simp only[Srt.cells,List.mem_cons,List.not_mem_nil,or_false] at hc
    rcases hc with rfl |rfl<;>rfl
   have st:=fun f l tk=>A_store x f l tk [.p (.str []),.p (.bool false)] (cs:=s.cells) (n:=2) rfl rfl rfl (by omega) o1
   have le:∀(f:Bool) (l:List UInt8) (G:Nat→Option (List PD)) (tk:List Nat),loadD G ⟨AA x f l++[s.cells.map .p],tk⟩ none (.box 6 0)=some (.p (.str s.nm))∧loadD G ⟨AA x f l++[s.cells.map .p],tk⟩ none (.box 6 1)=some (.p (.bool s.o)):=fun _ _ _ _=>⟨rfl,rfl⟩
   obtain⟨v1,f1,p1,b1⟩:=addU (a:=[115,111,114,116,32]) (b:=s.nm) (by simp;omega)
   simp only[List.length_cons,List.length_nil] at p1
   obtain⟨u1,e1,n1⟩:∃u,u=t++v1∧u.length=t.length+v1.length:=⟨_,rfl,by simp⟩
   obtain⟨u2,e2,n2⟩:∃u,u=u1++[32,111,114,100,101,114,101,100]∧u.length=u1.length+8:=⟨_,rfl,by simp⟩
   obtain⟨u3,e3,n3⟩:∃u,u=u2++[59,10]∧u.length=u2.length+2:=⟨_,rfl,by simp⟩
   obtain⟨u4,e4,n4⟩:∃u,u=u1++[59,10]∧u.length=u1.length+2:=⟨_,rfl,by simp⟩
   have w1:=fun f=>A_write (x:=x) (f:=f) e1 (by omega) [s.cells.map .p]
   have w2:=A_write (x:=x) (f:=false) e2 (by omega) [s.cells.map .p]
   have w3:=A_write (x:=x) (f:=false) e3 (by omega) [s.cells.map .p]
   have w4:=A_write (x:=x) (f:=false) e4 (by omega) [s.cells.map .p]
   cases ho:s.o with
   |true=>
    have e:t++srtT s=u3:=by rw[e3,e2,e1,f1];simp[srtT,ho]
    have em:=ne_app e3 lit_ne
    rw[e]
    rw[ho] at le
    simp[fc17_b0,adS,evKC,evK,put,Env.get,Env.keep,Opd.ev,D.asInt?,clsP,cls,clsR,isCl,isW,apartRW,offB,apartWW,clash,insOk,D.refsL,D.refs,D.toksL,D.toks,D.ren,locD,below,Out.ren,List.map,binD_int,intBin,al,hlt',ia,l0,le,st,hk1,b1,w1,w2,w3,em]
   |false=>
    have e:t++srtT s=u4:=by rw[e4,e1,f1];simp[srtT,ho]
    have em:=ne_app e4 lit_ne
    rw[e]
    rw[ho] at le
    simp[fc17_b0,adS,evKC,evK,put,Env.get,Env.keep,Opd.ev,D.asInt?,clsP,cls,clsR,isCl,isW,apartRW,offB,apartWW,clash,insOk,D.refsL,D.refs,D.toksL,D.toks,D.ren,locD,below,Out.ren,List.map,binD_int,intBin,al,hlt',ia,l0,le,st,hk1,b1,w1,w4,em])
  (fun t _=>by simp[fc17_b0,adS,adE,evKC,evK,put,Env.get,Env.keep,Opd.ev,D.ren,locD,below,Out.ren,List.map,binD_int,intBin]) t (by omega)
theorem ps_b1{x:Spc}(hx:PrOk x)(t:List UInt8)(ht:t.length≤900000):loopK (call pg) pg.G [1,3,4,41,42,43] fc17_b1 (adS x (fldsP x.f) 41 42 0 (els x.f).length t)=some (.exit 2,adE x (fldsP x.f) 41 42 (els x.f).length (els x.f).length (t++cat (fun _=>fldT (els x.s)) 0 (els x.f))):=by
 have la:=len_flds x.f
 have hns:=hx.nf
 have ol:(PD.one (fldsP x.f))=true:=pone_slP ..
 have od:(D.one (.p (fldsP x.f)))=true:=one_slP ..
 have al:=fun f l r=>A_ld x f l r
 exact acc_loop (g:=fun _=>fldT (els x.s)) (a:=els x.f) (vs:=[1,3,4,41,42,43]) (body:=fc17_b1) (S:=fun k t=>adS x (fldsP x.f) 41 42 k (els x.f).length t) (F:=fun t=>adE x (fldsP x.f) 41 42 (els x.f).length (els x.f).length t) (e:=2) 200 950000 (fun _ _=>rfl)
  (fun _ s hs=>fldT_len hx s hs)
  (fun k h t hb=>by
   have hlt':(k:Int)<((els x.f).length:Int):=by omega
   have ia:=ia_flds h
   have hk1:=inc64 (k:=k) (by omega)
   obtain⟨hl,hll,hi⟩:=hx.f _ (List.getElem_mem h)
   generalize (els x.f)[k]=s at *
   have l0:∀(G:Nat→Option (List PD)) (H:Hp),loadD G H (some 3) (.ro s.cells 0)=some (.p (.agg s.cells)):=fun _ _=>load_ro rfl
   have o1:=one_of (fld_one s)
   have st:=fun f l tk=>A_store x f l tk [.p (.str []),.p .nils,.p (.bool false)] (cs:=s.cells) (n:=3) rfl rfl rfl (by omega) o1
   have le:∀(f:Bool) (l:List UInt8) (G:Nat→Option (List PD)) (tk:List Nat),loadD G ⟨AA x f l++[s.cells.map .p],tk⟩ none (.box 6 0)=some (.p (.str s.nm))∧loadD G ⟨AA x f l++[s.cells.map .p],tk⟩ none (.box 6 1)=some (.p (intsP s.l))∧loadD G ⟨AA x f l++[s.cells.map .p],tk⟩ none (.box 6 2)=some (.p (.bool s.v)):=fun _ _ _ _=>⟨rfl,rfl,rfl⟩
   have hc:=cat_len (g:=sepg [32,45,62,32] (nmAt (els x.s))) (C:=20) (els s.l) 0 (fun k i hi=>by
    have:=nmAt_len hx i
    unfold sepg
    split<;>simp<;>omega)
   obtain⟨v1,f1,p1,b1⟩:=addU (a:=[102,105,101,108,100,32]) (b:=s.nm) (by simp;omega)
   simp only[List.length_cons,List.length_nil] at p1
   obtain⟨v2,f2,p2,b2⟩:=addU (a:=v1) (b:=[58,32]) (by simp;omega)
   simp only[List.length_cons,List.length_nil] at p2
   generalize hcat:cat (sepg [32,45,62,32] (nmAt (els x.s))) 0 (els s.l)=ct at *
   obtain⟨u1,e1,n1⟩:∃u,u=t++[118,97,114,32]∧u.length=t.length+4:=⟨_,rfl,by simp⟩
   have w1:=fun f=>A_write (x:=x) (f:=f) e1 (by omega) [s.cells.map .p]
   cases ho:s.v with
   |true=>
    obtain⟨u2,e2,n2⟩:∃u,u=u1++v2∧u.length=u1.length+v2.length:=⟨_,rfl,by simp⟩
    obtain⟨u3,e3,n3⟩:∃u,u=u2++ct∧u.length=u2.length+ct.length:=⟨_,rfl,by simp⟩
    obtain⟨u4,e4,n4⟩:∃u,u=u3++[59,10]∧u.length=u3.length+2:=⟨_,rfl,by simp⟩
    have w2:=A_write (x:=x) (f:=false) e2 (by omega) [s.cells.map .p]
    have w3:=A_list50 hx hll hi (t:=u2) (u:=u3) (by omega) (by rw[hcat];exact e3) [s.cells.map .p]
    have w4:=A_write (x:=x) (f:=false) e4 (by omega) [s.cells.map .p]
    have e:t++fldT (els x.s) s=u4:=by rw[e4,e3,e2,e1,f2,f1];simp[fldT,ho,hcat]
    have em:=ne_app e4 lit_ne
    rw[e]
    rw[ho] at le
    simp[fc17_b1,adS,evKC,evK,put,Env.get,Env.keep,Opd.ev,D.asInt?,clsP,cls,clsR,isCl,isW,apartRW,offB,apartWW,clash,insOk,D.refsL,D.refs,D.toksL,D.toks,D.ren,locD,below,Out.ren,List.map,binD_int,intBin,al,hlt',ia,l0,le,st,hk1,b1,b2,w1,w2,w3,w4,em]
   |false=>
    obtain⟨u2,e2,n2⟩:∃u,u=t++v2∧u.length=t.length+v2.length:=⟨_,rfl,by simp⟩
    obtain⟨u3,e3,n3⟩:∃u,u=u2++ct∧u.length=u2.length+ct.length:=⟨_,rfl,by simp⟩
    obtain⟨u4,e4,n4⟩:∃u,u=u3++[59,10]∧u.length=u3.length+2:=⟨_,rfl,by simp⟩
    have w2:=fun f=>A_write (x:=x) (f:=f) e2 (by omega) [s.cells.map .p]
    have w3:=A_list50 hx hll hi (t:=u2) (u:=u3) (by omega) (by rw[hcat];exact e3) [s.cells.map .p]
    have w4:=A_write (x:=x) (f:=false) e4 (by omega) [s.cells.map .p]
    have e:t++fldT (els x.s) s=u4:=by rw[e4,e3,e2,f2,f1];simp[fldT,ho,hcat]
    have em:=ne_app e4 lit_ne
    rw[e]
    rw[ho] at le
    simp[fc17_b1,adS,evKC,evK,put,Env.get,Env.keep,Opd.ev,D.asInt?,clsP,cls,clsR,isCl,isW,apartRW,offB,apartWW,clash,insOk,D.refsL,D.refs,D.toksL,D.toks,D.ren,locD,below,Out.ren,List.map,binD_int,intBin,al,hlt',ia,l0,le,st,hk1,b1,b2,w2,w3,w4,em])
  (fun t _=>by simp[fc17_b1,adS,adE,evKC,evK,put,Env.get,Env.keep,Opd.ev,D.ren,locD,below,Out.ren,List.map,binD_int,intBin]) t (by omega)
theorem formula_p{a:Nd}(hv:Ps.validN a=true)(H:Hp):callD (call pg) 14 [.p a.pd] H=some (.val (.p (.str (txt a true))),H):=by
 have h1:=txt_short hv true
 have h2:=Ps.valid_size hv
 exact formula_eq (by omega) (Ps.valid_i64s _ a (Nat.le_refl _) hv) (by omega) H
theorem ps_b2{x:Spc}(hx:PrOk x)(t:List UInt8)(ht:t.length≤500000):loopK (call pg) pg.G [1,3,4,72,73,74] fc17_b2 (adS x (prdsP x.p) 72 73 0 (els x.p).length t)=some (.exit 4,adE x (prdsP x.p) 72 73 (els x.p).length (els x.p).length (t++cat (fun _=>prdT (els x.s)) 0 (els x.p))):=by
 have la:=len_prds x.p
 have hns:=hx.np
 have ol:(PD.one (prdsP x.p))=true:=pone_slP ..
 have od:(D.one (.p (prdsP x.p)))=true:=one_slP ..
 have al:=fun f l r=>A_ld x f l r
 exact acc_loop (g:=fun _=>prdT (els x.s)) (a:=els x.p) (vs:=[1,3,4,72,73,74]) (body:=fc17_b2) (S:=fun k t=>adS x (prdsP x.p) 72 73 k (els x.p).length t) (F:=fun t=>adE x (prdsP x.p) 72 73 (els x.p).length (els x.p).length t) (e:=4) 20000 950000 (fun _ _=>rfl)
  (fun _ s hs=>prdT_len hx s hs)
  (fun k h t hb=>by
   have hlt':(k:Int)<((els x.p).length:Int):=by omega
   have ia:=ia_prds h
   have hk1:=inc64 (k:=k) (by omega)
   obtain⟨hl,hll,hi,hv⟩:=hx.p _ (List.getElem_mem h)
   generalize (els x.p)[k]=s at *
   have hfr:=fun H=>formula_p hv H
   have hts:=txt_short hv true
   have l0:∀(G:Nat→Option (List PD)) (H:Hp),loadD G H (some 7) (.ro s.cells 0)=some (.p (.agg s.cells)):=fun _ _=>load_ro (by simp[Prd.cells,nd_len])
   have o1:=one_of (prd_one s)
   have st:=fun f l tk=>A_store x f l tk [.p (.str []),.p .nils,.p (.int .i64 0),.p (.str []),.p (.int .i64 0),.p .nils,.p (.int .i64 0)] (cs:=s.cells) (n:=7) rfl rfl (by simp[Prd.cells,nd_len]) (by omega) o1
   have le:∀(f:Bool) (l:List UInt8) (G:Nat→Option (List PD)) (tk:List Nat),loadD G ⟨AA x f l++[s.cells.map .p],tk⟩ none (.box 6 0)=some (.p (.str s.nm))∧loadD G ⟨AA x f l++[s.cells.map .p],tk⟩ none (.box 6 1)=some (.p (prmsP s.l))∧loadD G ⟨AA x f l++[s.cells.map .p],tk⟩ (some 5) (.box 6 2)=some (.p s.b.pd):=fun _ _ _ _=>⟨rfl,rfl,by rw[pd_cells];exact load_at (pre:=[.str s.nm,prmsP s.l]) rfl rfl rfl⟩
   have hc:=cat_len (g:=sepg [44,32] (prmT (els x.s))) (C:=50) (els s.l) 0 (fun k i hii=>by
    have:=prmT_len hx (hi i hii).1
    unfold sepg
    split<;>simp<;>omega)
   obtain⟨v1,f1,p1,b1⟩:=addU (a:=[112,114,101,100,32]) (b:=s.nm) (by simp;omega)
   simp only[List.length_cons,List.length_nil] at p1
   obtain⟨v2,f2,p2,b2⟩:=addU (a:=v1) (b:=[91]) (by simp;omega)
   simp only[List.length_cons,List.length_nil] at p2
   generalize hcat:cat (sepg [44,32] (prmT (els x.s))) 0 (els s.l)=ct at *
   generalize htx:txt s.b true=tx at *
   obtain⟨v3,f3,p3,b3⟩:=addU (a:=[93,32,123,32]) (b:=tx) (by simp;omega)
   simp only[List.length_cons,List.length_nil] at p3
   obtain⟨v4,f4,p4,b4⟩:=addU (a:=v3) (b:=[32,125,10]) (by simp;omega)
   simp only[List.length_cons,List.length_nil] at p4
   obtain⟨u2,e2,n2⟩:∃u,u=t++v2∧u.length=t.length+v2.length:=⟨_,rfl,by simp⟩
   obtain⟨u3,e3,n3⟩:∃u,u=u2++ct∧u.length=u2.length+ct.length:=⟨_,rfl,by simp⟩
   obtain⟨u4,e4,n4⟩:∃u,u=u3++v4∧u.length=u3.length+v4.length:=⟨_,rfl,by simp⟩
   have w2:=fun f=>A_write (x:=x) (f:=f) e2 (by omega) [s.cells.map .p]
   have w3:=A_list52 hx hll (fun q hq=>hi q hq) (t:=u2) (u:=u3) (by omega) (by rw[hcat];exact e3) [s.cells.map .p]
   have w4:=A_write (x:=x) (f:=false) e4 (by omega) [s.cells.map .p]
   have e:t++prdT (els x.s) s=u4:=by rw[e4,e3,e2,f4,f3,f2,f1];simp[prdT,hcat,htx]
   have em:u4.isEmpty=false:=ne_app e4 (by rw[f4,f3];simp)
   rw[e]
   simp[fc17_b2,adS,evKC,evK,put,Env.get,Env.keep,Opd.ev,D.asInt?,clsP,cls,clsR,isCl,isW,apartRW,offB,apartWW,clash,insOk,D.refsL,D.refs,D.toksL,D.toks,D.ren,locD,below,Out.ren,List.map,binD_int,intBin,al,hlt',ia,l0,le,st,hk1,b1,b2,b3,b4,w2,w3,w4,em,hfr])
  (fun t _=>by simp[fc17_b2,adS,adE,evKC,evK,put,Env.get,Env.keep,Opd.ev,D.ren,locD,below,Out.ren,List.map,binD_int,intBin]) t (by omega)
def aqS(x:Spc)(k v:Nat)(t:List UInt8):St:=⟨[(3,.box 4 0),(102,.p (fctsP x.q)),(103,.p (.int .i64 (v:Nat))),(104,.p (.int .i64 (k:Nat)))],⟨AA x t.isEmpty t,[t.length]⟩⟩
def aqE(x:Spc)(k v:Nat)(t:List UInt8):St:=⟨[(3,.box 4 0),(102,.p (fctsP x.q)),(103,.p (.int .i64 (v:Nat))),(104,.p (.int .i64 (k:Nat))),(105,.p (.bool false))],⟨AA x t.isEmpty t,[t.length]⟩⟩
theorem ps_b3{x:Spc}(hx:PrOk x)(t:List UInt8)(ht:t.length≤600000):loopK (call pg) pg.G [3,102,103,104] fc17_b3 (aqS x 0 (els x.q).length t)=some (.exit 6,aqE x (els x.q).length (els x.q).length (t++cat (fun _=>fctT) 0 (els x.q))):=by
 have la:=len_fcts x.q
 have hns:=hx.nq
 have ol:(PD.one (fctsP x.q))=true:=pone_slP ..
 have od:(D.one (.p (fctsP x.q)))=true:=one_slP ..
 have al:=fun f l r=>A_ld x f l r
 exact acc_loop (g:=fun _=>fctT) (a:=els x.q) (vs:=[3,102,103,104]) (body:=fc17_b3) (S:=fun k t=>aqS x k (els x.q).length t) (F:=fun t=>aqE x (els x.q).length (els x.q).length t) (e:=6) 20000 950000 (fun _ _=>rfl)
  (fun _ s hs=>fctT_len hx s hs)
  (fun k h t hb=>by
   have hlt':(k:Int)<((els x.q).length:Int):=by omega
   have ia:=ia_fcts h
   have hk1:=inc64 (k:=k) (by omega)
   obtain⟨hl,hv⟩:=hx.q _ (List.getElem_mem h)
   generalize (els x.q)[k]=s at *
   have hfr:=fun H=>formula_p hv H
   have hts:=txt_short hv true
   have l0:∀(G:Nat→Option (List PD)) (H:Hp),loadD G H (some 6) (.ro s.cells 0)=some (.p (.agg s.cells)):=fun _ _=>load_ro (by simp[Fct.cells,nd_len])
   have o1:=one_of (fct_one s)
   have st:=fun f l tk=>A_store x f l tk [.p (.str []),.p (.int .i64 0),.p (.str []),.p (.int .i64 0),.p .nils,.p (.int .i64 0)] (cs:=s.cells) (n:=6) rfl rfl (by simp[Fct.cells,nd_len]) (by omega) o1
   have le:∀(f:Bool) (l:List UInt8) (G:Nat→Option (List PD)) (tk:List Nat),loadD G ⟨AA x f l++[s.cells.map .p],tk⟩ none (.box 6 0)=some (.p (.str s.nm))∧loadD G ⟨AA x f l++[s.cells.map .p],tk⟩ (some 5) (.box 6 1)=some (.p s.b.pd):=fun _ _ _ _=>⟨rfl,by rw[pd_cells];exact load_at (pre:=[.str s.nm]) rfl rfl rfl⟩
   generalize htx:txt s.b true=tx at *
   obtain⟨v1,f1,p1,b1⟩:=addU (a:=[102,97,99,116,32]) (b:=s.nm) (by simp;omega)
   simp only[List.length_cons,List.length_nil] at p1
   obtain⟨v2,f2,p2,b2⟩:=addU (a:=v1) (b:=[32,123,32]) (by simp;omega)
   simp only[List.length_cons,List.length_nil] at p2
   obtain⟨v3,f3,p3,b3⟩:=addU (a:=v2) (b:=tx) (by omega)
   obtain⟨v4,f4,p4,b4⟩:=addU (a:=v3) (b:=[32,125,10]) (by simp;omega)
   simp only[List.length_cons,List.length_nil] at p4
   obtain⟨u4,e4,n4⟩:∃u,u=t++v4∧u.length=t.length+v4.length:=⟨_,rfl,by simp⟩
   have w4:=fun f=>A_write (x:=x) (f:=f) e4 (by omega) [s.cells.map .p]
   have e:t++fctT s=u4:=by rw[e4,f4,f3,f2,f1];simp[fctT,htx]
   have em:u4.isEmpty=false:=ne_app e4 (by rw[f4];simp)
   rw[e]
   simp[fc17_b3,aqS,evKC,evK,put,Env.get,Env.keep,Opd.ev,D.asInt?,clsP,cls,clsR,isCl,isW,apartRW,offB,apartWW,clash,insOk,D.refsL,D.refs,D.toksL,D.toks,D.ren,locD,below,Out.ren,List.map,binD_int,intBin,al,hlt',ia,l0,le,st,hk1,b1,b2,b3,b4,w4,em,hfr])
  (fun t _=>by simp[fc17_b3,aqS,aqE,evKC,evK,put,Env.get,Env.keep,Opd.ev,D.ren,locD,below,Out.ren,List.map,binD_int,intBin]) t (by omega)
theorem pspec_eq{x:Spc}(hx:PrOk x)(H:Hp):callD (call pg) 17 [.p x.pd] H=some (.val (.p (.str (spcT x))),H):=by
 have o1:=one_of (spc_one x)
 have c1:=cat_srt hx
 have c2:=cat_fld hx
 have c3:=cat_prd hx
 have c4:=cat_fct hx
 have nw:=new_eq (x.cells.map .p)
 have a1:=len31 x.s
 have a2:=len_flds x.f
 have a3:=len_prds x.p
 have a4:=len_fcts x.q
 have al:=fun f l=>A_ld x f l []
 simp only[List.append_nil] at al
 have l1:loopK (call pg) pg.G [1,3,4,16,17,18] fc17_b0 ⟨[(1,.box 0 0),(3,.box 4 0),(4,.box 5 0),(16,.p (srtsP x.s)),(17,.p (.int .i64 (els x.s).length)),(18,.p (.int .i64 0))],⟨[x.cells.map .p,tabM binT,tabM preT,[.fresh 78 4 3,.tsl 0 5 1 [],.mapr 1,.mapr 2],[.box 3 0],[.fn 48 [] [.box 0 0]]],[0]⟩⟩=some (.exit 0,adE x (srtsP x.s) 16 17 (els x.s).length (els x.s).length ([]++cat (fun _=>srtT) 0 (els x.s))):=ps_b0 hx [] (by simp)
 rw[List.nil_append] at l1
 have l2:=ps_b1 hx (cat (fun _=>srtT) 0 (els x.s)) (by omega)
 have l3:=ps_b2 hx (cat (fun _=>srtT) 0 (els x.s)++cat (fun _=>fldT (els x.s)) 0 (els x.f)) (by simp;omega)
 have l4:=ps_b3 hx ((cat (fun _=>srtT) 0 (els x.s)++cat (fun _=>fldT (els x.s)) 0 (els x.f))++cat (fun _=>prdT (els x.s)) 0 (els x.p)) (by simp;omega)
 have e:spcT x=((cat (fun _=>srtT) 0 (els x.s)++cat (fun _=>fldT (els x.s)) 0 (els x.f))++cat (fun _=>prdT (els x.s)) 0 (els x.p))++cat (fun _=>fctT) 0 (els x.q):=rfl
 have hlen:(spcT x).length≤1000000:=by rw[e];simp;omega
 rw[←e] at l4
 have fin:=A_str (x:=x) (f:=(spcT x).isEmpty) (l:=spcT x) (by omega)
 generalize cat (fun _=>srtT) 0 (els x.s)=w1 at *
 generalize w1++cat (fun _=>fldT (els x.s)) 0 (els x.f)=w2 at *
 generalize w2++cat (fun _=>prdT (els x.s)) 0 (els x.p)=w3 at *
 generalize spcT x=w4 at *
 refine callD_any (d:=.p (.str w4)) ⟨⟨AA x w4.isEmpty w4,[w4.length]⟩,call_body (fc:=fc17) rfl rfl rfl rfl ?_⟩ rfl rfl rfl rfl H
 simp only[adS,adE,aqS,aqE,Int.natCast_zero,Nat.reduceAdd] at l1 l2 l3 l4
 have ls:∀(G:Nat→Option (List PD)) (r:List (List D)) tk,loadD G ⟨x.cells.map .p::r,tk⟩ none (.box 0 0)=some (.p (srtsP x.s)):=fun _ _ _=>rfl
 have s4:∀(a b c:List D) (p0:List D) tk,storeD ⟨[p0,a,b,c,[.p .nilp]],tk⟩ 1 (.box 4 0) (.box 3 0)=some ⟨[p0,a,b,c,[.box 3 0]],tk⟩:=fun _ _ _ _ _=>rfl
 have s5:∀(a b c d:List D) (p0:List D) tk,storeD ⟨[p0,a,b,c,d,[.p .nilf]],tk⟩ 1 (.box 5 0) (.fn 48 [] [.box 0 0])=some ⟨[p0,a,b,c,d,[.fn 48 [] [.box 0 0]]],tk⟩:=fun _ _ _ _ _ _=>rfl
 have on1:PD.nilp.one=true:=rfl
 have on2:PD.nilf.one=true:=rfl
 simp[fc17,on1,on2,evKC,evK,put,Env.get,Env.keep,entry,Opd.ev,finish,evRes,evRes1,D.cells,isMapC,Spc.pd,o1,nw,ls,s4,s5,tokbD,tokD,al,a1,a2,a3,a4,l1,l2,l3,l4,fin]
mutual
def mvN:Nd→Int→Nd
 | .mk op nm n _ ks pos,b=>.mk op nm n 1 (mvL ks b 0) (IntKind.i64.wrap (pos+b))
def mvL:List Nd→Int→Nat→List Nd
 |[],_,_=>[]
 |k::ks,b,i=>mvN k (IntKind.i64.wrap (b+(i:Int)))::mvL ks b (i+1)
end
theorem kids_c1(op:Int)(nm:List UInt8)(n:Int)(ks:List Nd)(pos:Int):(Nd.mk op nm n 1 ks pos).kidsP= .slice 5 (ks.map Nd.pd):=by
 cases ks<;>rfl
theorem mv_cells(a:Nd)(b:Int):(mvN a b).cells=[.int .i64 a.op,.str a.nm,.int .i64 a.n,.slice 5 ((mvL a.ks b 0).map Nd.pd),.int .i64 (IntKind.i64.wrap (a.pos+b))]:=by
 cases a
 simp only[mvN,Nd.cells,kids_c1]
 rfl
theorem one_ofP{cs:List PD}(h:∀c∈cs,c.one=true):(∀x,x∈cs→x.one=true)=True:=eq_true h
def mvBox(a:Nd)(b:Int)(acc:List PD):List D:=[.p (.int .i64 a.op),.p (.str a.nm),.p (.int .i64 a.n),.tsl 0 24 5 acc,.p (.int .i64 (IntKind.i64.wrap (a.pos+b)))]
def zBox:List D:=[.p (.int .i64 0),.p (.str []),.p (.int .i64 0),.p .nils,.p (.int .i64 0)]
theorem ren_z(f g:Nat→Option Nat):D.renL f g zBox=some zBox:=rfl
theorem ren_mv(a:Nd)(b:Int)(acc:List PD)(f:Nat→Option Nat):D.renL f (below 1) (mvBox a b acc)=some (mvBox a b acc):=rfl
theorem mv_loop{a:Nd}{b:Int}(hsz:a.ks.length≤1000000)(ih:∀(k:Nd) (b:Int),k∈a.ks→∀H,callD (call pg) 20 [.p k.pd,.p (.int .i64 b)] H=some (.val (.agg ((mvN k b).cells.map .p)),H)):
    ∀(n k:Nat) (acc:List PD),a.ks.length-k≤n→k≤a.ks.length→acc.length=k→
    ∃env,env.get 4= .box 1 0∧env.get 5= .box 2 0∧loopK (call pg) pg.G [1,2,4,5,6] fc20_b0 ⟨[(1,.p (.int .i64 b)),(2,.box 0 0),(4,.box 1 0),(5,.box 2 0),(6,.p (.int .i64 k))],⟨[a.cells.map .p,zBox,mvBox a b acc],[acc.length]⟩⟩=
     some (.exit 0,⟨env,⟨[a.cells.map .p,zBox,mvBox a b (acc++(mvL (a.ks.drop k) b k).map Nd.pd)],[(acc++(mvL (a.ks.drop k) b k).map Nd.pd).length]⟩⟩):=by
 intro n
 have hk0:=len_kids a
 have hld:∀G bx tk,loadD G ⟨a.cells.map .p::bx,tk⟩ none (.box 0 3)=some (.p a.kidsP):=fun G bx tk=>rfl
 induction n with
 |zero=>
  intro k acc hn hk h1
  have he:k=a.ks.length:=by omega
  refine⟨[(1,.p (.int .i64 b)),(2,.box 0 0),(4,.box 1 0),(5,.box 2 0),(6,.p (.int .i64 k)),(23,.p (.bool false))],rfl,rfl,?_⟩
  rw[List.drop_eq_nil_of_le (by omega)]
  refine loopK_out (o:=.exit 0) ?_ (by simp)
  simp[fc20_b0,mvL,zBox,mvBox,evKC,evK,put,Env.get,Env.keep,Opd.ev,binD,mapO,D.renL,D.ren,locD,below,Out.ren,List.map,hk0,hld,he]
 |succ n IH=>
  intro k acc hn hk h1
  by_cases he:k=a.ks.length
  ·refine⟨[(1,.p (.int .i64 b)),(2,.box 0 0),(4,.box 1 0),(5,.box 2 0),(6,.p (.int .i64 k)),(23,.p (.bool false))],rfl,rfl,?_⟩
   rw[List.drop_eq_nil_of_le (by omega)]
   refine loopK_out (o:=.exit 0) ?_ (by simp)
   simp[fc20_b0,mvL,zBox,mvBox,evKC,evK,put,Env.get,Env.keep,Opd.ev,binD,mapO,D.renL,D.ren,locD,below,Out.ren,List.map,hk0,hld,he]
  ·have hlt:k<a.ks.length:=by omega
   have hlt':(k:Int)<(a.ks.length:Int):=by omega
   have hc:=ih a.ks[k] (IntKind.i64.wrap (b+(k:Int))) (List.getElem_mem hlt)
   have hia:=ia_kids hlt
   have hld2:=fun(G:Nat→Option (List PD)) (H:Hp)=>load_nd (G:=G) (H:=H) a.ks[k]
   obtain⟨env,g4,g5,e1⟩:=IH (k+1) (acc++[(mvN a.ks[k] (IntKind.i64.wrap (b+(k:Int)))).pd]) (by omega) (by omega) (by simp[h1])
   refine⟨env,g4,g5,?_⟩
   have hacc:acc++[(mvN a.ks[k] (IntKind.i64.wrap (b+(k:Int)))).pd]++(mvL (a.ks.drop (k+1)) b (k+1)).map Nd.pd=acc++(mvL (a.ks.drop k) b k).map Nd.pd:=by
    rw[List.drop_eq_getElem_cons hlt]
    simp[mvL]
   rw[hacc] at e1
   rw[←e1]
   refine loopK_norm ?_
   have hk1:=inc64 (k:=k) (by omega)
   have hst:∀(x:Nd),storeD ⟨[a.cells.map .p,zBox,mvBox a b acc,[D.p (PD.int IntKind.i64 0),D.p (PD.str []),D.p (PD.int IntKind.i64 0),D.p PD.nils,D.p (PD.int IntKind.i64 0)]],[acc.length]⟩ 5 (.box 3 0) (.agg (x.cells.map .p))=some ⟨[a.cells.map .p,zBox,mvBox a b acc,x.cells.map .p],[acc.length]⟩:=fun x=>by
    have:=store_box (H:=⟨[a.cells.map .p,zBox,mvBox a b acc,zBox],[acc.length]⟩) (i:=3) (zs:=[.int .i64 0,.str [],.int .i64 0,.nils,.int .i64 0]) (cs:=x.cells) (n:=5) rfl rfl rfl (by decide) (pd_one x)
    exact this
   have hlx:∀G (x:Nd),loadD G ⟨[a.cells.map .p,zBox,mvBox a b acc,x.cells.map .p],[acc.length]⟩ (some 5) (.box 3 0)=some (.p x.pd):=fun G x=>load_ndb (i:=3) rfl
   have hl5:∀G c tk,loadD G ⟨[a.cells.map .p,zBox,mvBox a b acc,c],tk⟩ none (.box 2 3)=some (.tsl 0 24 5 acc):=fun G c tk=>rfl
   have hs5:∀c tk acc',storeD ⟨[a.cells.map .p,zBox,mvBox a b acc,c],tk⟩ 1 (.box 2 3) (.tsl 0 24 5 acc')=some ⟨[a.cells.map .p,zBox,mvBox a b acc',c],tk⟩:=fun c tk acc'=>by
    simp[storeD,mvBox,isMapC,splice,D.cells]
   have hro:roomy (acc.length+1) 64=true:=by simp[roomy];omega
   generalize mvN a.ks[k] (IntKind.i64.wrap (b+(k:Int)))=y at *
   generalize a.ks[k]=x at *
   have hy:=pd_cells y
   have hyo:=one_ofP (pd_one y)
   have hyl:=nd_len y
   simp[fc20_b0,evKC,evK,put,Env.get,Env.keep,Opd.ev,D.asInt?,binD,mapO,PD.cells,fillE,appendD,srcD,D.elems?,D.asPD,srcH,D.ren,locD,below,Out.ren,List.map,hk0,hld,hlt',hia,hld2,hc,hk1,hy,hyo,hyl,ren_z,ren_mv,hst,hlx,hl5,hs5,hro]
theorem moved0:∀(s:Nat) (a:Nd) (b:Int),a.size≤s→s≤1000000→∃Hl,call pg 20 [.p a.pd,.p (.int .i64 b)] ⟨[],[]⟩=some (.val (.agg (mvBox a b ((mvL a.ks b 0).map Nd.pd))),Hl):=by
 intro s
 induction s with
 |zero=>intro a b h;have:=size_eq a;omega
 |succ s ih=>
  intro a b hs hB
  have hlen:=len_sizeL a.ks
  have hsz:=size_eq a
  have hone:=fun k c (h:c∈(mvN k b).cells)=>pd_one (mvN k b) c h
  obtain⟨env,g4,g5,e1⟩:=mv_loop (a:=a) (b:=b) (by omega) (fun k b hk H=>by
   have hk':=size_kid hk
   obtain⟨Hl,h⟩:=ih k b (by omega) (by omega)
   have e:(mvN k b).cells.map D.p=[.p (.int .i64 k.op),.p (.str k.nm),.p (.int .i64 k.n),.p (.slice 5 ((mvL k.ks b 0).map Nd.pd)),.p (.int .i64 (IntKind.i64.wrap (k.pos+b)))]:=by rw[mv_cells];rfl
   rw[e]
   exact callD_any ⟨Hl,h⟩ rfl rfl rfl rfl H) a.ks.length 0 [] (by omega) (by omega) rfl
  rw[List.drop_zero,List.nil_append] at e1
  simp only[Int.natCast_zero,List.length_nil] at e1
  simp only[Nd.cells,List.map_cons,List.map_nil,zBox,mvBox] at e1
  rw[pd_cells]
  refine⟨_,call_body (fc:=fc20) rfl rfl rfl rfl (r:=(_,⟨[a.cells.map .p,mvBox a b ((mvL a.ks b 0).map Nd.pd),mvBox a b ((mvL a.ks b 0).map Nd.pd)],[((mvL a.ks b 0).map Nd.pd).length]⟩)) ?_⟩
  simp[fc20,Nd.cells,mvBox,evKC,evK,put,Env.get,Env.keep,entry,Opd.ev,loadD,storeD,splice,cutAt,binD,sub,finish,evRes,evRes1,D.cells,mkAgg,pures,fillD,isMapC,List.map,tokbD,tokD,e1,g4,g5]
theorem moved_eq{a:Nd}(h:a.size≤1000000)(b:Int)(H:Hp):callD (call pg) 20 [.p a.pd,.p (.int .i64 b)] H=some (.val (.agg ((mvN a b).cells.map .p)),H):=by
 have e:(mvN a b).cells.map D.p=[.p (.int .i64 a.op),.p (.str a.nm),.p (.int .i64 a.n),.p (.slice 5 ((mvL a.ks b 0).map Nd.pd)),.p (.int .i64 (IntKind.i64.wrap (a.pos+b)))]:=by rw[mv_cells];rfl
 rw[e]
 exact callD_any (moved0 _ a b (Nat.le_refl _) h) rfl rfl rfl rfl H
theorem kids_eq{a b:Nd}(hB:a.size≤1000000000)(H:Hp):callD (call pg) 25 [.p a.kidsP,.p b.kidsP,.fn 9 [] []] H=some (.val (.p (.bool (eqAll eqN a.ks b.ks))),H):=by
 have hlen:=len_sizeL a.ks
 have hsz:=size_eq a
 have:=eqf_eq (p:=pg) (fi:=25) (g:=9) (sz:=5) (zs:=[.int .i64 0,.str [],.int .i64 0,.nils,.int .i64 0]) (f:=Nd.pd) (a:=ndSl a.c a.ks) (b:=ndSl b.c b.ks) (r:=eqN) rfl rfl rfl (by decide) rfl
  (fun x _=>rec_nd x) (fun x _=>rec_nd x) (fun k h1 h2 H=>by
   have hm:∀x∈els (ndSl a.c a.ks),x∈a.ks:=fun x hx=>by rw[els_ndSl] at hx;exact hx
   have hsk:=size_kid (hm _ (List.getElem_mem h1))
   exact equalNodes_eq (by omega) H) (by rw[els_ndSl];omega)
 rw[els_ndSl,els_ndSl] at this
 exact callD_pure this rfl rfl rfl rfl
theorem equalAgg0{a b:Nd}(hB:a.size≤1000000000):∃H',call pg 9 [.p a.pd,.agg (b.cells.map .p)] ⟨[],[]⟩=some (.val (.p (.bool (eqN a b))),H'):=by
 have hkids:=fun H=>kids_eq (b:=b) hB H
 rw[pd_cells]
 refine⟨_,call_body (fc:=fc9) rfl rfl rfl rfl (r:=(_,⟨[a.cells.map .p,b.cells.map .p],[]⟩)) ?_⟩
 have e:=eqN_eq a b
 cases h1:(a.op==b.op) with
 |false=>
  rw[h1] at e
  simp[fc9,evKC,evK,evGuard,put,Env.get,Env.keep,entry,Opd.ev,loadD,cutAt,binD,finish,evRes,evRes1,D.cells,isMapC,Nd.cells,h1,e]
 |true=>
  cases h2:(a.nm==b.nm) with
  |false=>
   rw[h1,h2] at e
   simp[fc9,evKC,evK,evGuard,put,Env.get,Env.keep,entry,Opd.ev,loadD,cutAt,binD,strBin,finish,evRes,evRes1,D.cells,isMapC,Nd.cells,h1,h2,e]
  |true=>
   cases h3:(a.n==b.n) with
   |false=>
    rw[h1,h2,h3] at e
    simp[fc9,evKC,evK,evGuard,put,Env.get,Env.keep,entry,Opd.ev,loadD,cutAt,binD,strBin,finish,evRes,evRes1,D.cells,isMapC,Nd.cells,h1,h2,h3,e]
   |true=>
    rw[h1,h2,h3] at e
    simp[fc9,evKC,evK,evGuard,put,Env.get,Env.keep,entry,Opd.ev,loadD,cutAt,binD,strBin,finish,evRes,evRes1,D.cells,isMapC,Nd.cells,h1,h2,h3,e,hkids]
theorem refsL_agg(a:PD)(l:List PD):D.refsL [.p a,.agg (l.map .p)]=[]:=by simp[D.refsL,D.refs]
theorem toksL_agg(a:PD)(l:List PD):D.toksL [.p a,.agg (l.map .p)]=[]:=by simp[D.toksL,D.toks]
theorem equalAgg_eq{a b:Nd}(h:a.size≤1000000000)(H:Hp):callD (call pg) 9 [.p a.pd,.agg (b.cells.map .p)] H=some (.val (.p (.bool (eqN a b))),H):=
 callD_any (equalAgg0 h) (refsL_agg ..) (toksL_agg ..) (by simp[D.renL,D.ren]) rfl H
def isTrue:Option (Res×Hp)→Bool
 |some (.val (.p (.bool true)),_)=>true
 |_=>false
theorem isTrue_some{o:Option (Res×Hp)}(h:isTrue o=true):∃H,o=some (.val (.p (.bool true)),H):=by
 unfold isTrue at h
 split at h
 ·exact⟨_,rfl⟩
 ·cases h
theorem head_run:isTrue (evF pg 60 6 [] ⟨[],[]⟩)=true:=by kernel_rfl
theorem head_eq(H:Hp):callD (call pg) 6 [] H=some (.val (.p (.bool true)),H):=by
 obtain⟨H',h⟩:=isTrue_some head_run
 exact callD_pure (call_of_evF 60 h) rfl rfl rfl rfl
mutual
theorem eqN_refl:∀a:Nd,eqN a a=true
 | .mk op nm n c ks pos=>by simp[eqN,eqNL_refl ks]
theorem eqNL_refl:∀l:List Nd,eqNL l l=true
 |[]=>rfl
 |a::l=>by simp[eqNL,eqN_refl a,eqNL_refl l]
end
mutual
theorem eqN_symm:∀a b:Nd,eqN a b=true→eqN b a=true
 | .mk op nm n c ks pos,.mk op' nm' n' c' ks' pos'=>by
  simp only[eqN,Bool.and_eq_true,beq_iff_eq]
  rintro⟨⟨⟨h1,h2⟩,h3⟩,h4⟩
  exact⟨⟨⟨h1.symm,h2.symm⟩,h3.symm⟩,eqNL_symm ks ks' h4⟩
theorem eqNL_symm:∀a b:List Nd,eqNL a b=true→eqNL b a=true
 |[],[],_=>rfl
 |a::x,b::y,h=>by
  simp only[eqNL,Bool.and_eq_true] at h⊢
  exact⟨eqN_symm a b h.1,eqNL_symm x y h.2⟩
 |[],_::_,h=>by simp[eqNL] at h
 |_::_,[],h=>by simp[eqNL] at h
end
theorem eqN_comm(a b:Nd):eqN a b=eqN b a:=by
 rw[Bool.eq_iff_iff];exact⟨eqN_symm a b,eqN_symm b a⟩
mutual
theorem eqN_trans:∀a b c:Nd,eqN a b=true→eqN b c=true→eqN a c=true
 | .mk op nm n _ ks pos,.mk op' nm' n' _ ks' pos',.mk op'' nm'' n'' _ ks'' pos''=>by
  simp only[eqN,Bool.and_eq_true,beq_iff_eq]
  rintro⟨⟨⟨h1,h2⟩,h3⟩,h4⟩ ⟨⟨⟨g1,g2⟩,g3⟩,g4⟩
  exact⟨⟨⟨h1.trans g1,h2.trans g2⟩,h3.trans g3⟩,eqNL_trans ks ks' ks'' h4 g4⟩
theorem eqNL_trans:∀a b c:List Nd,eqNL a b=true→eqNL b c=true→eqNL a c=true
 |[],[],[],_,_=>rfl
 |a::x,b::y,c::z,h,g=>by
  simp only[eqNL,Bool.and_eq_true] at h g⊢
  exact⟨eqN_trans a b c h.1 g.1,eqNL_trans x y z h.2 g.2⟩
 |[],_::_,_,h,_=>by simp[eqNL] at h
 |_::_,[],_,h,_=>by simp[eqNL] at h
 |_,[],_::_,_,h=>by simp[eqNL] at h
 |_,_::_,[],_,h=>by simp[eqNL] at h
end
mutual
theorem eqN_mv:∀(a:Nd) (b:Int),eqN a (mvN a b)=true
 | .mk op nm n c ks pos,b=>by simp[mvN,eqN,eqNL_mv ks b 0]
theorem eqNL_mv:∀(l:List Nd) (b:Int) (i:Nat),eqNL l (mvL l b i)=true
 |[],_,_=>rfl
 |a::l,b,i=>by simp[mvL,eqNL,eqN_mv a,eqNL_mv l]
end
theorem eqAll_refl{α:Type}{r:α→α→Bool}(h:∀x,r x x=true):∀l:List α,eqAll r l l=true
 |[]=>rfl
 |x::l=>by simp[eqAll,h x,eqAll_refl h l]
theorem eqAll_comm{α:Type}{r:α→α→Bool}(h:∀x y,r x y=r y x):∀a b:List α,eqAll r a b=eqAll r b a
 |[],[]=>rfl
 |x::a,y::b=>by simp[eqAll,h x y,eqAll_comm h a b]
 |[],_::_=>rfl
 |_::_,[]=>rfl
theorem rInt_refl(x:Int):rInt x x=true:=by simp[rInt]
theorem rPrm_refl(x:Prm):rPrm x x=true:=by simp[rPrm]
theorem rSrt_refl(x:Srt):rSrt x x=true:=by simp[rSrt]
theorem rFld_refl(x:Fld):rFld x x=true:=by simp[rFld,eqAll_refl rInt_refl]
theorem rPrd_refl(x:Prd):rPrd x x=true:=by simp[rPrd,eqAll_refl rPrm_refl,eqN_refl]
theorem rFct_refl(x:Fct):rFct x x=true:=by simp[rFct,eqN_refl]
theorem rSpc_refl(x:Spc):rSpc x x=true:=by
 simp[rSpc,eqAll_refl rSrt_refl,eqAll_refl rFld_refl,eqAll_refl rPrd_refl,eqAll_refl rFct_refl]
theorem beq_comm'{α:Type}[BEq α][LawfulBEq α](x y:α):(x==y)=(y==x):=by
 rw[Bool.eq_iff_iff];simp only[beq_iff_eq];exact⟨Eq.symm,Eq.symm⟩
theorem rInt_comm(x y:Int):rInt x y=rInt y x:=beq_comm' x y
theorem rPrm_comm(x y:Prm):rPrm x y=rPrm y x:=by simp only[rPrm,beq_comm' x.nm,beq_comm' x.s]
theorem rSrt_comm(x y:Srt):rSrt x y=rSrt y x:=by simp only[rSrt,beq_comm' x.nm,beq_comm' x.o]
theorem rFld_comm(x y:Fld):rFld x y=rFld y x:=by simp only[rFld,beq_comm' x.nm,beq_comm' x.v,eqAll_comm rInt_comm (els x.l)]
theorem rPrd_comm(x y:Prd):rPrd x y=rPrd y x:=by simp only[rPrd,beq_comm' x.nm,eqAll_comm rPrm_comm (els x.l),eqN_comm x.b]
theorem rFct_comm(x y:Fct):rFct x y=rFct y x:=by simp only[rFct,beq_comm' x.nm,eqN_comm x.b]
theorem rSpc_comm(x y:Spc):rSpc x y=rSpc y x:=by
 simp only[rSpc,eqAll_comm rSrt_comm (els x.s),eqAll_comm rFld_comm (els x.f),eqAll_comm rPrd_comm (els x.p),eqAll_comm rFct_comm (els x.q)]
theorem load_spc{G:Nat→Option (List PD)}{H:Hp}{i:Nat}{x:Spc}(hb:H.bx[i]? =some (x.cells.map D.p)):loadD G H (some 4) (.box i 0)=some (.p x.pd):=load_box hb rfl
theorem law3(a b:Nd)(sp sq:Spc):∃H,call pg 3 [.p a.pd,.p b.pd,.p sp.pd,.p sq.pd] ⟨[],[]⟩=some (.val (.p (.bool true)),H):=by
 have hh:=head_eq
 have oa:=one_of (pd_one a)
 have ob:=one_of (pd_one b)
 have op:=one_of (spc_one sp)
 have oq:=one_of (spc_one sq)
 have la:∀G,loadD G ⟨[a.cells.map .p,b.cells.map .p,sp.cells.map .p,sq.cells.map .p],[]⟩ (some 5) (.box 0 0)=some (.p a.pd):=fun G=>load_ndb rfl
 have lb:∀G,loadD G ⟨[a.cells.map .p,b.cells.map .p,sp.cells.map .p,sq.cells.map .p],[]⟩ (some 5) (.box 1 0)=some (.p b.pd):=fun G=>load_ndb rfl
 have lp:∀G,loadD G ⟨[a.cells.map .p,b.cells.map .p,sp.cells.map .p,sq.cells.map .p],[]⟩ (some 4) (.box 2 0)=some (.p sp.pd):=fun G=>load_spc rfl
 have lq:∀G,loadD G ⟨[a.cells.map .p,b.cells.map .p,sp.cells.map .p,sq.cells.map .p],[]⟩ (some 4) (.box 3 0)=some (.p sq.pd):=fun G=>load_spc rfl
 have ha:=small_eq a
 have hb:=small_eq b
 have hp:=modest_eq sp
 have hq:=modest_eq sq
 refine⟨⟨[a.cells.map .p,b.cells.map .p,sp.cells.map .p,sq.cells.map .p],[]⟩,call_body (fc:=fc3) rfl rfl rfl rfl ?_⟩
 by_cases ka:a.size≤400
 case neg=>
  simp only[decide_eq_false ka] at ha
  rw[pd_cells a] at la ha⊢
  rw[pd_cells b] at lb hb⊢
  simp only[Spc.pd] at lp lq hp hq⊢
  simp[fc3,evKC,evK,evGuard,put,Env.get,Env.keep,entry,Opd.ev,unD,finish,evRes,evRes1,D.cells,List.map,oa,ob,op,oq,hh,la,ha]
 simp only[decide_eq_true ka] at ha
 by_cases kb:b.size≤400
 case neg=>
  simp only[decide_eq_false kb] at hb
  rw[pd_cells a] at la ha⊢
  rw[pd_cells b] at lb hb⊢
  simp only[Spc.pd] at lp lq hp hq⊢
  simp[fc3,evKC,evK,evGuard,put,Env.get,Env.keep,entry,Opd.ev,unD,finish,evRes,evRes1,D.cells,List.map,oa,ob,op,oq,hh,la,ha,lb,hb]
 simp only[decide_eq_true kb] at hb
 by_cases kp:Mod sp
 case neg=>
  simp only[decide_eq_false kp] at hp
  rw[pd_cells a] at la ha⊢
  rw[pd_cells b] at lb hb⊢
  simp only[Spc.pd] at lp lq hp hq⊢
  simp[fc3,evKC,evK,evGuard,put,Env.get,Env.keep,entry,Opd.ev,unD,finish,evRes,evRes1,D.cells,List.map,oa,ob,op,oq,hh,la,ha,lb,hb,lp,hp]
 simp only[decide_eq_true kp] at hp
 by_cases kq:Mod sq
 case neg=>
  simp only[decide_eq_false kq] at hq
  rw[pd_cells a] at la ha⊢
  rw[pd_cells b] at lb hb⊢
  simp only[Spc.pd] at lp lq hp hq⊢
  simp[fc3,evKC,evK,evGuard,put,Env.get,Env.keep,entry,Opd.ev,unD,finish,evRes,evRes1,D.cells,List.map,oa,ob,op,oq,hh,la,ha,lb,hb,lp,hp,lq,hq]
 simp only[decide_eq_true kq] at hq
 have e1:=fun H=>equalNodes_eq (a:=a) (b:=b) (by omega) H
 have e2:=requal_eq a.size a b (Nat.le_refl _) (by omega)
 have e3:=fun H=>spc_eq sp sq kp H
 have e4:=fun H=>rspc_eq sp sq kp H
 have e5:=fun H=>Ps.validR_eq a H
 have e6:=fun H=>rprint_eq sp kp H
 have hf:(Ps.validR a=true)→∀H,callD (call pg) 14 [.p a.pd] H=some (.val (.p (.str (txt a true))),H)∧callD (call pg) 15 [.p a.pd] H=some (.val (.p (.str (txt a true))),H):=fun h H=>⟨formula_p (Ps.valid_of h) H,formula_r (Ps.valid_of h) H⟩
 have hs:(prOk sp=true)→∀H,callD (call pg) 17 [.p sp.pd] H=some (.val (.p (.str (spcT sp))),H)∧callD (call pg) 18 [.p sp.pd] H=some (.val (.p (.str (spcT sp))),H):=fun h H=>⟨pspec_eq (prOk_of kp h) H,rspec_eq (prOk_of kp h) H⟩
 rw[pd_cells a] at la ha e1 e2 e5 hf⊢
 rw[pd_cells b] at lb hb e1 e2⊢
 simp only[Spc.pd] at lp lq hp hq e3 e4 e6 hs⊢
 generalize txt a true=tx at *
 generalize spcT sp=st at *
 generalize eqN a b=q1 at *
 generalize rSpc sp sq=q2 at *
 cases k1:Ps.validR a with
 |false=>
  rw[k1] at e5
  cases k2:prOk sp with
  |false=>
   rw[k2] at e6
   simp[fc3,evKC,evK,evGuard,put,Env.get,Env.keep,entry,Opd.ev,unD,clsP,cls,clsR,isCl,isW,apartRW,offB,apartWW,clash,insOk,finish,evRes,evRes1,D.cells,D.refsL,D.refs,D.toksL,D.toks,eqD,List.map,oa,ob,op,oq,hh,la,ha,lb,hb,lp,hp,lq,hq,e1,e2,e3,e4,e5,e6]
  |true=>
   rw[k2] at e6
   have hs:=hs k2
   simp[fc3,evKC,evK,evGuard,put,Env.get,Env.keep,entry,Opd.ev,binD,strBin,unD,clsP,cls,clsR,isCl,isW,apartRW,offB,apartWW,clash,insOk,finish,evRes,evRes1,D.cells,D.refsL,D.refs,D.toksL,D.toks,eqD,List.map,oa,ob,op,oq,hh,la,ha,lb,hb,lp,hp,lq,hq,e1,e2,e3,e4,e5,e6,hs]
 |true=>
  rw[k1] at e5
  have hf:=hf k1
  cases k2:prOk sp with
  |false=>
   rw[k2] at e6
   simp[fc3,evKC,evK,evGuard,put,Env.get,Env.keep,entry,Opd.ev,binD,strBin,unD,clsP,cls,clsR,isCl,isW,apartRW,offB,apartWW,clash,insOk,finish,evRes,evRes1,D.cells,D.refsL,D.refs,D.toksL,D.toks,eqD,List.map,oa,ob,op,oq,hh,la,ha,lb,hb,lp,hp,lq,hq,e1,e2,e3,e4,e5,e6,hf]
  |true=>
   rw[k2] at e6
   have hs:=hs k2
   simp[fc3,evKC,evK,evGuard,put,Env.get,Env.keep,entry,Opd.ev,binD,strBin,unD,clsP,cls,clsR,isCl,isW,apartRW,offB,apartWW,clash,insOk,finish,evRes,evRes1,D.cells,D.refsL,D.refs,D.toksL,D.toks,eqD,List.map,oa,ob,op,oq,hh,la,ha,lb,hb,lp,hp,lq,hq,e1,e2,e3,e4,e5,e6,hf,hs]
end Go.Proofs.YtalgjkpkkdljaaaDoor
