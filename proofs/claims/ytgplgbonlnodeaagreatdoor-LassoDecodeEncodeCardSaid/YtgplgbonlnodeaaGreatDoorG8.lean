/-
  A value-level evaluator for Go functions; the functions of this cut by it; plain laws. Text G8.
-/
import Derived.Test.YtgplgbonlnodeaaGreatDoorG7
import Derived.Test.YtgplgbonlnodeaaGreatDoorG6
open Bool renaming and_eq_false_iff→FW,and_eq_true→bQ,false_eq_true→ob,not_eq_false'→PF,not_eq_true'→ud,or_eq_true→o0
open Classical renaming byContradiction→qD
open Int renaming natCast_inj→pZ,natCast_zero→gJ,toNat_natCast→qF
open List renaming append_assoc→oc,append_eq_nil_iff→xJ,cons_append→jN,drop_of_length_le→Km,drop_zero→tZ,eq_nil_of_length_eq_zero→tY,ext_getElem?→oh,filter_cons→xK,flatMap_cons→ub,foldl_cons→Af,getD_eq_getElem?_getD→fE,getElem?_append_left→cH,getElem?_append_right→eL,getElem?_drop→oZ,getElem?_eq_getElem→aA,getElem?_eq_none→lU,getElem?_eq_some_iff→az,getElem?_map→cP,getElem?_modify→PO,getElem?_of_mem→eC,getElem?_replicate→amY,getElem?_set→vX,getElem?_set_ne→dH,getElem?_set_self→j9,getElem?_take→j7,getElem_cons_zero→p7,getElem_mem→bO,getElem_of_mem→p6,length→oq,length_append→iq,length_cons→dZ,length_filter_le→F5,length_map→cx,length_nil→fW,length_pos_iff→xG,length_replicate→CQ,length_take→pb,map_append→vW,map_congr_left→sV,map_cons→dA,map_id→amV,map_map→uf,map_nil→mF,mem_append→cW,mem_cons→cN,mem_cons_of_mem→jD,mem_filter→rH,mem_map→dz,mem_map_of_mem→Kc,mem_of_getElem?→bS,mem_of_mem_take→j8,nil_append→jm,nodup_append→YL,nodup_cons→vS,not_mem_nil→mG,pairwise_cons→xM,pairwise_iff_getElem→F0,pairwise_map→Ko,replicate→eB,set_cons_succ→PI,set_cons_zero→PJ,take_add_one→PH,take_length→oo,take_of_length_le→jC,take_succ_eq_append_getElem→sW,take_take→YO,take_zero→vT
open List.Pairwise renaming filter→PN,imp→PM,imp_of_mem→aqu,sublist→aqt
open List.cons renaming injEq→FV
open Nat renaming add_sub_cancel_left→vU,le_refl→aV,le_trans→gA,lt_or_ge→iP,lt_trichotomy→FZ,mul_comm→Ag,mul_le_mul→ug,mul_le_mul_right→kz,not_lt_zero→Ai,one_pos→amW,reduceAdd→vV,zero_add→eS,zero_le→b9
open Option renaming bind→amX,bind_some→PB,getD_some→kU,map_eq_some_iff→au,map_map→PC,map_some→eA
open Option.some renaming inj→oi,injEq→bI
open Prod renaming mk→lB
section
open Go.Vs Go.Proofs.YtgplgbonlnodeaaGreatDoor
attribute [local simp] cF aN fF put Env.get Env.keep entry aw.ev ph uk aE cutAt uj D.rJ D.lC u8 vZ ui v5 kB sub v7 p8 PD.eqv jP cls gN rL bq kC nD pj eP qL finish lX qM aP D.aD D.refs D.bz D.cJ ec gU aO ov fj eF D.iR D.eM qF rK sX qJ D.jn aU A8 A9 wL Ba Bb jL B7 gives nx B2 B3 B4 pZ zz dJ below Out.ren D.ren D.ba zF B6 BK BL BM tL zA BN BO BP BQ BR BS BT zC BU BV BW BX zD wZ BZ
namespace Go.Proofs.YtgplgbonlnodeaaGreatDoor
open Go.Vs
theorem gy.map{H H2:Hp}{g:Nat→Nat}(h:∀(i:Nat) cs,H.bx[i]? =some cs→H2.bx[g i]? =some (D.dn g cs)){d:D}{l:List Int}(r:gy H d l):gy H2 (d.mv g) l∧∀j∈dS (d.mv g),∃i∈dS d,j=g i∧∃cs,H.bx[i]? =some cs:=by
 cases r with
 |aI=>exact⟨.aI,fun j hj=>by cases hj⟩
 |emp=>exact⟨.emp,fun j hj=>by cases hj⟩
 |row i l hi aq=>
  refine⟨.row _ _ (by rw[h i _ hi,Xc]) aq,fun j hj=>⟨i,by simp[dS],?_,_,hi⟩⟩;simpa[D.mv,dS] using hj
theorem n6.map{H H2:Hp}{g:Nat→Nat}{lab lab2:Nat→cL}(h:∀(i:Nat) cs,H.bx[i]? =some cs→H2.bx[g i]? =some (D.dn g cs))(hl:∀(i:Nat) cs,H.bx[i]? =some cs→lab2 (g i)=lab i){m:Nat}{at_:D}{st lp:Int}{S:List (List (Int×List Int))}(r:n6 H lab m at_ st lp S):
    n6 H2 lab2 (g m) (at_.mv g) st lp S:=by
 obtain⟨h1,sd,h2,h3⟩:=r;refine⟨by rw[hl m _ h2];exact h1,sd.mv g,by rw[h m _ h2];rfl,?_⟩;rcases h3 with⟨rfl,rfl⟩ |⟨s0,ds,rfl,q2,q3,q4,q5⟩
 ·exact .inl ⟨rfl,rfl⟩
 refine .inr ⟨g s0,_,rfl,by rw[hl s0 _ q3];exact q2,h s0 _ q3,by rw[Bd,cx];exact q4,fun s R hR=>?_⟩;obtain⟨d,w1,w2⟩:=q5 s R hR;refine⟨_,Cy w1,?_⟩;rcases w2 with⟨rfl,rfl⟩ |⟨k,cs,rfl,w3,w4,w5,w6⟩
 ·exact .inl ⟨rfl,rfl⟩
 refine .inr ⟨g k,_,rfl,by rw[hl k _ w4];exact w3,h k _ w4,by rw[Bd,cx];exact w5,fun f a l hf=>?_⟩;obtain⟨e1,d',e2,e3,e4⟩:=w6 f a l hf;obtain⟨g1,g2⟩:=e3.map h;refine⟨Cy e1,_,Cy e2,g1,fun j hj=>?_⟩;obtain⟨i,hi,rfl,Kz,aj6⟩:=g2 j hj;rw[hl i _ aj6];exact e4 i hi
theorem aj7{ids:List Nat}(hn:ids.Nodup){j:Nat}(hj:j<ids.length):eI ids ids[j]=j:=by
 have h1:=yT (bO hj);have h2:ids[j]? =some ids[j]:=aA hj;exact(List.getElem?_inj hj hn |>.1 (h2.trans h1.symm)).symm
def n7(H:Hp)(ids:List Nat)(Hs:Hp):Hp:=
 ⟨cq H.bx ids ((Hs.bx.take ids.length).map (D.dn (dR ids H.bx.length)))++(Hs.bx.drop ids.length).map (D.dn (dR ids H.bx.length)),H.tk⟩
theorem Cz{H Hs:Hp}{ids:List Nat}(hn:ids.Nodup)(hv:∀x∈ids,x<H.bx.length)(hl:ids.length≤Hs.bx.length){j:Nat}{cs:List D}(hc:Hs.bx[j]? =some cs):
    (n7 H ids Hs).bx[dR ids H.bx.length j]? =some (D.dn (dR ids H.bx.length) cs):=by
 obtain⟨hj,hjc⟩:=az.1 hc;unfold n7;simp only;by_cases ah:j<ids.length
 ·have ho:dR ids H.bx.length j=ids[j]:=by simp[dR,ah]
  have hm:ids[j]<H.bx.length:=hv _ (bO ah);rw[cH (by rw[mU,ho];exact hm),ho];rw[Dm ids _ _ j ids[j] hn (aA ah) hm (by simp;omega)];rw[cP,j7,if_pos ah,hc];rfl
 ·have ho:dR ids H.bx.length j=H.bx.length+(j-ids.length):=by simp[dR,ah]
  rw[eL (by rw[mU,ho];omega),mU,ho,cP,oZ];have :ids.length+(H.bx.length+(j-ids.length)-H.bx.length)=j:=by omega
  rw[this,hc];rfl
def JH(lab:Nat→cL)(ids:List Nat)(N x:Nat):cL:=if x<N then(if x∈ids then lab (eI ids x) else .none) else lab (ids.length+(x-N))
theorem aj8{lab:Nat→cL}{ids:List Nat}{N j:Nat}(hn:ids.Nodup)(hv:∀x∈ids,x<N):JH lab ids N (dR ids N j)=lab j:=by
 by_cases ah:j<ids.length
 ·have ho:dR ids N j=ids[j]:=by simp[dR,ah]
  have hm:ids[j]<N:=hv _ (bO ah);rw[ho];simp[JH,hm,aj7 hn ah]
 ·have ho:dR ids N j=N+(j-ids.length):=by simp[dR,ah]
  rw[ho];have :ids.length+(N+(j-ids.length)-N)=j:=by omega
  simp only[JH];rw[if_neg (by omega),this]
theorem n6.out{H Hs:Hp}{ids:List Nat}(hn:ids.Nodup)(hv:∀x∈ids,x<H.bx.length)(hl:ids.length≤Hs.bx.length){lab:Nat→cL}{m:Nat}{at_:D}{st lp:Int}{S:List (List (Int×List Int))}(r:n6 Hs lab m at_ st lp S):
    n6 (n7 H ids Hs) (JH lab ids H.bx.length) (dR ids H.bx.length m) (at_.mv (dR ids H.bx.length)) st lp S:=
 r.map (fun _ _ h=>Cz hn hv hl h) fun _ _ _=>aj8 hn hv
structure Wk (H:Hp) (lab:Nat→cL) (c v m:Nat) (at_:D) (al:List Int) (bs:Sl Bool) (st lp:Int) (S:List (List (Int×List Int))):Prop where
 mod:n6 H lab m at_ st lp S
 ats:gy H at_ al
 nv:∀i∈dS at_,lab i= .pU 2
 cc:H.bx[c]? =some [.fn 73 [] [.box v 0]]
 cl:lab c= .pU 0
 vv:H.bx[v]? =some [.p (dy bs)]
 vl:lab v= .pU 1
 rf:∀(i:Nat) cs,H.bx[i]? =some cs→∀x∈D.aD cs,lab x≠.none
 tk:∀(i:Nat) cs,H.bx[i]? =some cs→D.bz cs=[]
 fr:∀j,H.bx.length≤j→lab j= .none
theorem Wk.lt{H:Hp}{lab:Nat→cL}{c v m:Nat}{at_:D}{al:List Int}{bs:Sl Bool}{st lp:Int}{S:List (List (Int×List Int))}(w:Wk H lab c v m at_ al bs st lp S){x:Nat}(h:lab x≠.none):x<H.bx.length:=by
 refine qD fun hn=>h (w.fr x (by omega))
theorem Wk.ok{H:Hp}{lab:Nat→cL}{c v m:Nat}{at_:D}{al:List Int}{bs:Sl Bool}{st lp:Int}{S:List (List (Int×List Int))}(w:Wk H lab c v m at_ al bs st lp S):H.Ok:=
 fun i cs hi x hx=>w.lt (w.rf i cs hi x hx)
theorem Wk.snoc{H:Hp}{lab:Nat→cL}{c v m:Nat}{at_:D}{al:List Int}{bs:Sl Bool}{st lp:Int}{S:List (List (Int×List Int))}(w:Wk H lab c v m at_ al bs st lp S)(cs:List D)(hr:∀x∈D.aD cs,lab x≠.none)(ht:D.bz cs=[])(tk:List Nat):Wk ⟨H.bx++[cs],tk⟩ lab c v m at_ al bs st lp S:=by
 have hx:∀(i:Nat) ds,H.bx[i]? =some ds→(H.bx++[cs])[i]? =some ds:=fun i ds h=>by
  rw[cH (az.1 h).1,h]
 have hy:∀(i:Nat) ds,(H.bx++[cs])[i]? =some ds→H.bx[i]? =some ds∨ds=cs:=fun i ds h=>by
  rcases iP i H.bx.length with hl |hl
  ·rw[cH hl] at h;exact .inl h
  ·rw[eL hl] at h;have:=bS h;exact .inr (by simpa using this)
 refine⟨w.mod.ext hx,w.ats.other fun i hi=>?_,w.nv,hx _ _ w.cc,w.cl,hx _ _ w.vv,w.vl,fun i ds hi x iX=>?_,fun i ds hi=>?_,fun j hj=>w.fr j (by simp at hj;omega)⟩
 ·have:=w.lt (x:=i) (by rw[w.nv i hi];simp);exact cH this
 ·rcases hy i ds hi with h |rfl
  ·exact w.rf i ds h x iX
  ·exact hr x iX
 ·rcases hy i ds hi with h |rfl
  ·exact w.tk i ds h
  ·exact ht
theorem aj9{cs:List D}{j:Nat}{d:D}:∀x∈D.aD (cs.set j d),x∈D.aD cs∨x∈d.refs:=by
 induction cs generalizing j with
 |nil=>intro x hx;exact .inl hx
 |cons a cs ih=>
  intro x hx;cases j with
  |zero=>
   simp only[PJ,D.aD,cW] at hx⊢;rcases hx with h |h
   ·exact .inr h
   ·exact .inl (.inr h)
  |succ j=>
   simp only[PI,D.aD,cW] at hx⊢;rcases hx with h |h
   ·exact .inl (.inl h)
   ·rcases ih x h with h |h
    ·exact .inl (.inr h)
    ·exact .inr h
theorem aka{cs:List D}{j:Nat}{d:D}(h:D.bz cs=[])(hd:d.cJ=[]):D.bz (cs.set j d)=[]:=by
 induction cs generalizing j with
 |nil=>exact h
 |cons a cs ih=>
  simp only[D.bz,xJ] at h;cases j with
  |zero=>simp[D.bz,hd,h.2]
  |succ j=>simp[D.bz,h.1,ih h.2]
theorem Wk.ins{H:Hp}{lab:Nat→cL}{c v m:Nat}{at_:D}{al:List Int}{bs:Sl Bool}{st lp:Int}{S:List (List (Int×List Int))}(w:Wk H lab c v m at_ al bs st lp S){s f:Nat}{R:List (Int×List Int)}{a:Int}{l l':List Int}(hR:S[s]? =some R)(hf:R[f]? =some (a,l))(nG:l'≠[]):
    ∃s0 ds k cs d',H.bx[m]? =some [at_,.p (.int .i64 st),.aB s0 78 S.length 1,.p (.int .i64 lp)]∧H.bx[s0]? =some ds∧ds.length=S.length∧ds[s]? =some (.aB k 85 R.length 2)∧k<H.bx.length∧H.bx[k]? =some cs∧cs.length=R.length*2∧cs[2*f+1]? =some d'∧gy H d' l∧k∉dS d'∧(∀i∈dS d',i<H.bx.length)∧
     ∀(bx:List (List D)) (tk:List Nat),bx.length=H.bx.length→(∀j,j∉dS d'→bx[j]? =H.bx[j]?)→(∀(j:Nat) ds,bx[j]? =some ds→H.bx[j]? =some ds∨ds=[])→
      ∃dG,Wk ⟨(bx++[cS l']).set k (cs.set (2*f+1) (.aB H.bx.length 3 l'.length 1)),tk⟩ dG c v m at_ al bs st lp (S.set s (R.set f (a,l')))∧∀j,j≠H.bx.length→dG j=lab j:=by
 obtain⟨s0,ds,k,cs,d',h1,h2,h3,h4,h4b,h5,h6,h7,h8,h9,Jn⟩:=w.mod.ins hR hf nG;have jG:k<H.bx.length:=(az.1 h5).1;refine⟨s0,ds,k,cs,d',h1,h2,h3,h4,jG,h5,h6,h7,h8,h9,fun i hi=>?_,fun bx tk b1 b2 b3=>?_⟩
 ·cases h8 with
  |aI=>cases hi
  |emp=>cases hi
  |row i2 l hb aq=>
   have :i=i2:=by simpa[dS] using hi
   subst this;exact(az.1 hb).1
 obtain⟨dG,q1,q2,q3,q4⟩:=Jn bx tk b1 b2 (w.fr _ (aV _));have aq:∀j,lab j≠.none→dG j=lab j:=fun j hj=>q2 j fun h=>hj (by rw[h];exact w.fr _ (aV _));have qU:∀j,lab j≠.none→dG j≠.none:=fun j hj=>by rw[aq j hj];exact hj
 have hc:∀(i:Nat) es,((bx++[cS l']).set k (cs.set (2*f+1) (.aB H.bx.length 3 l'.length 1)))[i]? =some es→es=cs.set (2*f+1) (.aB H.bx.length 3 l'.length 1)∨es=cS l'∨es=[]∨H.bx[i]? =some es:=by
  intro i es h;rw[vX] at h;split at h
  ·split at h
   ·cases h;exact .inl rfl
   ·cases h
  ·rcases iP i bx.length with hl |hl
   ·rw[cH hl] at h;rcases b3 i es h with h |h
    ·exact .inr (.inr (.inr h))
    ·exact .inr (.inr (.inl h))
   ·rw[eL hl] at h;have:=bS h;exact .inr (.inl (by simpa using this))
 refine⟨dG,⟨q1,?_,fun i hi=>?_,q4 _ _ _ w.cl w.cc,?_,q4 _ _ _ w.vl w.vv,?_,fun i es hi x hx=>?_,fun i es hi=>?_,fun j hj=>?_⟩,q2⟩
 ·have hr:=w.ats;have hl:=w.nv;generalize at_=at' at hr hl;generalize al=al' at hr;cases hr with
  |aI=>exact .aI
  |emp=>exact .emp
  |row i l hb aq=>exact .row i _ (q4 i 2 _ (hl i (by simp[dS])) hb) aq
 ·rw[aq i (by rw[w.nv i hi];simp)];exact w.nv i hi
 ·rw[aq c (by rw[w.cl];simp)];exact w.cl
 ·rw[aq v (by rw[w.vl];simp)];exact w.vl
 ·rcases hc i es hi with rfl |rfl |rfl |h
  ·rcases aj9 x hx with h |h
   ·exact qU x (w.rf k cs h5 x h)
   ·have :x=H.bx.length:=by simpa[D.refs] using h
    rw[this];exact q3
  ·rw[JE] at hx;cases hx
  ·cases hx
  ·exact qU x (w.rf i es h x hx)
 ·rcases hc i es hi with rfl |rfl |rfl |h
  ·exact aka (w.tk k cs h5) rfl
  ·exact JF l'
  ·rfl
  ·exact w.tk i es h
 ·simp[b1] at hj;rw[q2 j (by omega)];exact w.fr j (by omega)
theorem Wk.take{H:Hp}{lab:Nat→cL}{c v m:Nat}{at_:D}{al:List Int}{bs:Sl Bool}{st lp:Int}{S:List (List (Int×List Int))}(w:Wk H lab c v m at_ al bs st lp S){n:Nat}(hn:n≤H.bx.length)(hr:∀i,i<n→∀cs,H.bx[i]? =some cs→∀x∈D.aD cs,x<n)(hm:m<n)(hc:c<n)(tk:List Nat):
    ∃dG,Wk ⟨H.bx.take n,tk⟩ dG c v m at_ al bs st lp S∧∀j,j<n→dG j=lab j:=by
 obtain⟨dG,l1,l2⟩:∃dG:Nat→cL,(∀j,j<n→dG j=lab j)∧∀j,n≤j→dG j= .none:=
  ⟨fun j=>if j<n then lab j else .none,fun j hj=>by simp[hj],fun j hj=>by simp;intro h;omega⟩
 have hg:∀i,i<n→∀cs,H.bx[i]? =some cs→(H.bx.take n)[i]? =some cs:=fun i hi cs h=>by
  rw[j7,if_pos hi,h]
 have hb:∀(i:Nat) cs,(H.bx.take n)[i]? =some cs→i<n∧H.bx[i]? =some cs:=fun i cs h=>by
  rw[j7] at h;split at h
  ·rename_i hi;exact⟨hi,h⟩
  ·cases h
 have hv:v<n:=hr c hc _ w.cc v (by simp[D.aD,D.refs]);have xw:∀{d:D} {l:List Int},gy H d l→(∀i∈dS d,i<n)→gy ⟨H.bx.take n,tk⟩ d l:=fun h h2=>by
  cases h with
  |aI=>exact .aI
  |emp=>exact .emp
  |row i l hb aq=>exact .row i _ (hg i (h2 i (by simp[dS])) _ hb) aq
 obtain⟨m1,sd,m2,m3⟩:=w.mod;have eX:∀i∈dS at_,i<n:=fun i hi=>hr m hm _ m2 i (by simp[D.aD,FH i hi]);refine⟨dG,⟨⟨(l1 _ hm).trans m1,sd,hg m hm _ m2,?_⟩,xw w.ats eX,fun i hi=>(l1 _ (eX i hi)).trans (w.nv i hi),hg c hc _ w.cc,(l1 _ hc).trans w.cl,hg v hv _ w.vv,(l1 _ hv).trans w.vl,fun i cs hi x hx=>?_,fun i cs hi=>w.tk i cs (hb i cs hi).2,fun j hj=>?_⟩,l1⟩
 ·rcases m3 with m3 |⟨s0,ds,rfl,q2,q3,q4,q5⟩
  ·exact .inl m3
  have i0:s0<n:=hr m hm _ m2 s0 (by simp[D.aD,D.refs]);refine .inr ⟨s0,ds,rfl,(l1 _ i0).trans q2,hg _ i0 _ q3,q4,fun s R hR=>?_⟩;obtain⟨d,w1,w2⟩:=q5 s R hR;refine⟨d,w1,?_⟩;rcases w2 with w2 |⟨k,cs,rfl,w3,w4,w5,w6⟩
  ·exact .inl w2
  have ik:k<n:=hr s0 i0 _ q3 k (JG w1 k (by simp[D.refs]));refine .inr ⟨k,cs,rfl,(l1 _ ik).trans w3,hg _ ik _ w4,w5,fun f a l hf=>?_⟩;obtain⟨e1,d',e2,e3,e4⟩:=w6 f a l hf;have ir:∀i∈dS d',i<n:=fun i hi=>hr k ik _ w4 i (JG e2 i (FH i hi));exact⟨e1,d',e2,xw e3 ir,fun i hi=>(l1 _ (ir i hi)).trans (e4 i hi)⟩
 ·obtain⟨h1,h2⟩:=hb i cs hi;have:=hr i h1 cs h2 x hx;rw[l1 _ this];exact w.rf i cs h2 x hx
 ·exact l2 j (by simp at hj;omega)
variable {H : Hp} {lab : Nat → cL} {c v m : Nat} {at_ : D} {al : List Int} {bs : Sl Bool} {st lp : Int} {S : List (List (Int × List Int))}
theorem Wk.Xd(w:Wk H lab c v m at_ al bs st lp S){ids:List Nat}(hs:vn H ids)(hc:c∈ids):v∈ids:=
 hs c hc _ w.cc v (by simp[D.aD,D.refs])
theorem Wk.Xe(w:Wk H lab c v m at_ al bs st lp S){ids:List Nat}(hs:vn H ids)(hm:m∈ids):∀r∈at_.refs,r∈ids:=by
 obtain⟨_,sd,m2,_⟩:=w.mod;exact fun r hr=>hs m hm _ m2 r (by simp[D.aD,hr])
theorem Wk.sub(w:Wk H lab c v m at_ al bs st lp S){ids:List Nat}(hs:vn H ids)(hv:∀x∈ids,x<H.bx.length)(hc:c∈ids)(hm:m∈ids):
    Wk (sF H ids) (zX lab ids) (eI ids c) (eI ids v) (eI ids m) (at_.mv (eI ids)) al bs st lp S:=by
 have CA:=w.Xd hs hc;have eX:=w.Xe hs hm;have hb:∀(i:Nat) cs,(sF H ids).bx[i]? =some cs→∃i0∈ids,∃mV,H.bx[i0]? =some mV∧cs=D.dn (eI ids) mV:=by
  intro i cs hi;unfold sF at hi;simp only[cP] at hi;obtain⟨j,hj,rfl⟩:=au.1 hi;have hm:j∈ids:=bS hj;refine⟨j,hm,_,?_,rfl⟩;simp[fE,hv j hm]
 obtain⟨g1,g2⟩:=w.ats.sub (ids:=ids) fun i hi=>eX i (FH i hi);refine⟨w.mod.sub hs hm,g1,fun i hi=>?_,by rw[pq hc w.cc];rfl,by rw[vJ hc];exact w.cl,by rw[pq CA w.vv];rfl,by rw[vJ CA];exact w.vl,fun i cs hi x hx=>?_,fun i cs hi=>?_,fun j hj=>?_⟩
 ·obtain⟨j,hj,rfl⟩:=g2 i hi;rw[vJ (eX j (FH j hj))];exact w.nv j hj
 ·obtain⟨i0,h1,mV,h2,rfl⟩:=hb i cs hi;rw[wP] at hx;obtain⟨y,hy,rfl⟩:=dz.1 hx;rw[vJ (hs i0 h1 _ h2 y hy)];exact w.rf i0 mV h2 y hy
 ·obtain⟨i0,h1,mV,h2,rfl⟩:=hb i cs hi;rw[wQ];exact w.tk i0 mV h2
 ·unfold zX;rw[if_neg];unfold sF at hj;simp at hj;omega
theorem Wk.out(w:Wk H lab c v m at_ al bs st lp S){ids:List Nat}(hn:ids.Nodup)(hs:vn H ids)(hv:∀x∈ids,x<H.bx.length)(hc:c∈ids)(hm:m∈ids){Hs:Hp}{j6:Nat→cL}{S':List (List (Int×List Int))}
    (ws:Wk Hs j6 (eI ids c) (eI ids v) (eI ids m) (at_.mv (eI ids)) al bs st lp S') (hl:ids.length≤Hs.bx.length) (hk:∀j,j<ids.length→j6 j=zX lab ids j):
    ∃lab2,Wk (n7 H ids Hs) lab2 c v m at_ al bs st lp S'∧(∀j,j<H.bx.length→lab2 j=lab j)∧(∀j,j∉ids→j<H.bx.length→(n7 H ids Hs).bx[j]? =H.bx[j]?):=by
 obtain⟨lab2,l1,l2⟩:∃lab2:Nat→cL,(∀j,j<H.bx.length→lab2 j=lab j)∧∀j,H.bx.length≤j→lab2 j=j6 (ids.length+(j-H.bx.length)):=
  ⟨fun j=>if j<H.bx.length then lab j else j6 (ids.length+(j-H.bx.length)),fun j hj=>by simp[hj],fun j hj=>by simp;intro h;omega⟩
 have CA:=w.Xd hs hc;have eX:=w.Xe hs hm;have ho:∀j,lab2 (dR ids H.bx.length j)=j6 j:=fun j=>by
  by_cases ah:j<ids.length
  ·have ho:dR ids H.bx.length j=ids[j]:=by simp[dR,ah]
   have kL:ids[j]<H.bx.length:=hv _ (bO ah);rw[ho,l1 _ kL,hk j ah];simp[zX,ah]
  ·have ho:dR ids H.bx.length j=H.bx.length+(j-ids.length):=by simp[dR,ah]
   rw[ho,l2 _ (by omega)];congr 1
   omega
 have e1:∀{i},i∈ids→dR ids H.bx.length (eI ids i)=i:=fun h=>aej h;have e2:(at_.mv (eI ids)).mv (dR ids H.bx.length)=at_:=Ii at_ fun r hr=>e1 (eX r hr);have iy:∀j,j∉ids→j<H.bx.length→(n7 H ids Hs).bx[j]? =H.bx[j]?:=fun j h1 h2=>by
  unfold n7;simp only;rw[cH (by rw[mU];exact h2),yr _ _ _ _ h1]
 have hb:∀(i:Nat) cs,(n7 H ids Hs).bx[i]? =some cs→(i<H.bx.length∧H.bx[i]? =some cs)∨∃j mV,Hs.bx[j]? =some mV∧cs=D.dn (dR ids H.bx.length) mV:=fun i cs hi=>by
  by_cases ei:i∈ids
  ·have h1:=yT ei;obtain⟨h2,h3⟩:=az.1 h1;have h4:Hs.bx[eI ids i]? =some Hs.bx[eI ids i]:=aA (by omega);have h5:=Cz hn hv hl h4;rw[e1 ei,hi] at h5;exact .inr ⟨_,_,h4,by cases h5;rfl⟩
  ·by_cases ah:i<H.bx.length
   ·rw[iy i ei ah] at hi;exact .inl ⟨ah,hi⟩
   ·unfold n7 at hi;simp only at hi;rw[eL (by rw[mU];omega),mU,cP] at hi;obtain⟨mV,h1,rfl⟩:=au.1 hi;rw[oZ] at h1;exact .inr ⟨_,mV,h1,rfl⟩
 have hlen:(n7 H ids Hs).bx.length=H.bx.length+(Hs.bx.length-ids.length):=by
  unfold n7;simp[mU]
 obtain⟨g1,g2⟩:=ws.ats.map (H2:=n7 H ids Hs) (g:=dR ids H.bx.length) fun i cs h=>Cz hn hv hl h;rw[e2] at g1 g2;have yl:=ws.mod.map (H2:=n7 H ids Hs) (g:=dR ids H.bx.length) (lab2:=lab2) (fun _ _ h=>Cz hn hv hl h) fun i _ _=>ho i;rw[e2,e1 hm] at yl;have eh:=Cz hn hv hl ws.cc;rw[e1 hc] at eh;have AG:=Cz hn hv hl ws.vv;rw[e1 CA] at AG;refine⟨lab2,⟨yl,g1,fun i hi=>?_,?_,?_,AG,?_,fun i cs hi x hx=>?_,fun i cs hi=>?_,fun j hj=>?_⟩,l1,iy⟩
 ·obtain⟨j,hj,rfl,-⟩:=g2 i hi;rw[ho];exact ws.nv j hj
 ·rw[eh];simp[D.dn,D.mv,e1 CA]
 ·have:=ho (eI ids c);rw[e1 hc] at this;rw[this];exact ws.cl
 ·have:=ho (eI ids v);rw[e1 CA] at this;rw[this];exact ws.vl
 ·rcases hb i cs hi with⟨_,h⟩ |⟨j,mV,h,rfl⟩
  ·have:=w.rf i cs h x hx;rw[l1 x (w.lt this)];exact this
  ·rw[wP] at hx;obtain⟨y,hy,rfl⟩:=dz.1 hx;rw[ho];exact ws.rf j mV h y hy
 ·rcases hb i cs hi with⟨_,h⟩ |⟨j,mV,h,rfl⟩
  ·exact w.tk i cs h
  ·rw[wQ];exact ws.tk j mV h
 ·rw[l2 j (by rw[hlen] at hj;omega)];exact ws.fr _ (by rw[hlen] at hj;omega)
theorem Wk.call(w:Wk H lab c v m at_ al bs st lp S){f:Nat}{args:List D}{S':List (List (Int×List Int))}{K:Nat}(ht:D.bz args=[])(ha:∀x∈D.aD args,lab x≠.none)(hc:c∈D.aD args)(hm:m∈D.aD args)
    (h:∀(g:Nat→Nat) (H':Hp) (dG:Nat→cL) (at':D),Wk H' dG (g c) (g v) (g m) at' al bs st lp S→(∀x∈D.aD args,dG (g x)=lab x)→H'.bx.length≤H.bx.length→H'.tk=[]→
     ∃Hs j6,call pg f (D.dn g args) H'=some (.val .undef,Hs)∧Wk Hs j6 (g c) (g v) (g m) at' al bs st lp S'∧H'.bx.length≤Hs.bx.length∧Hs.bx.length≤H'.bx.length+K∧∀j,j<H'.bx.length→j6 j=dG j):
    ∃H2 lab2,av (call pg) f args H=some (.val .undef,H2)∧Wk H2 lab2 c v m at_ al bs st lp S'∧H2.tk=H.tk∧H.bx.length≤H2.bx.length∧H2.bx.length≤H.bx.length+K∧(∀j,j<H.bx.length→lab2 j=lab j)∧∀j,j<H.bx.length→lab j= .none→H2.bx[j]? =H.bx[j]?:=by
 obtain⟨ids,i1,i2,i3,i4,i5,i6⟩:=aek (c:=Go.Vs.call pg) (f:=f) (args:=args) w.ok ht w.tk fun x hx=>w.lt (ha x hx);have hc:=i3 c hc;have hm:=i3 m hm;have ws:=w.sub i4 i2 hc hm;have dk:(sF H ids).bx.length=ids.length:=by unfold sF;simp
 obtain⟨Hs,j6,h1,h2,h3,hK,h4⟩:=h (eI ids) _ _ _ ws (fun x hx=>vJ (i3 x hx)) (by rw[dk];exact M4 _ _ i1 i2) rfl;rw[dk] at h3 h4 hK;have akb:=i5 (fun x=>lab x≠.none) ha fun i cs _ hi x hx=>w.rf i cs hi x hx;have Xf:∀j,lab j= .none→j∉ids:=fun j hj ei=>akb j ei hj;obtain⟨k,hk,mg⟩:=i6 _ _ h1 h3 h2.ok (fun cs ak=>by
  obtain⟨i,hi⟩:=eC ak;exact h2.tk i cs hi) (by simp[D.refs]) rfl
 rcases hk with⟨rfl,-,hk⟩ |rfl
 ·have hr:∀i,i<ids.length→∀cs,Hs.bx[i]? =some cs→∀x∈D.aD cs,x<ids.length:=fun i hi cs ak=>by
   refine hk cs ?_;have :(Hs.bx.take ids.length)[i]? =some cs:=by rw[j7,if_pos hi,ak]
   exact bS this
  have ke:=(az.1 (yT hm)).1;have dr:=(az.1 (yT hc)).1;obtain⟨aqb,t1,t2⟩:=h2.take h3 hr ke dr [];have kG:(Hs.bx.take ids.length).length=ids.length:=by simp;omega
  obtain⟨lab2,o1,o2,o3⟩:=w.out i1 i4 i2 hc hm t1 (by rw[kG];exact aV _) fun j hj=>(t2 j hj).trans (h4 j hj);have e:n7 H ids ⟨Hs.bx.take ids.length,[]⟩=⟨cq H.bx ids ((Hs.bx.take ids.length).map (D.dn (dR ids H.bx.length)))++((Hs.bx.drop ids.length).map (D.dn (dR ids H.bx.length))).take 0,H.tk⟩:=by
   unfold n7;simp only[YO,Nat.min_self,vT];have ed:(Hs.bx.take ids.length).drop ids.length=[]:=Km (List.length_take_le _ _);rw[ed];rfl
  rw[e] at o1 o3;refine⟨_,lab2,mg,o1,rfl,?_,?_,o2,fun j hj hl=>o3 j (Xf j hl) hj⟩
  ·simp[mU]
  ·simp[mU];try omega
 ·obtain⟨lab2,o1,o2,o3⟩:=w.out i1 i4 i2 hc hm h2 h3 h4;have e:n7 H ids Hs=⟨cq H.bx ids ((Hs.bx.take ids.length).map (D.dn (dR ids H.bx.length)))++((Hs.bx.drop ids.length).map (D.dn (dR ids H.bx.length))).take (Hs.bx.length-ids.length),H.tk⟩:=by
   have ed:((Hs.bx.drop ids.length).map (D.dn (dR ids H.bx.length))).take (Hs.bx.length-ids.length)=(Hs.bx.drop ids.length).map (D.dn (dR ids H.bx.length)):=jC (by simp);rw[ed];rfl
  rw[e] at o1 o3;refine⟨_,lab2,mg,o1,rfl,?_,?_,o2,fun j hj hl=>o3 j (Xf j hl) hj⟩
  ·simp[mU]
  ·simp[mU];try omega
end Go.Proofs.YtgplgbonlnodeaaGreatDoor
namespace Go.Proofs.YtgplgbonlnodeaaGreatDoor
open Go.Vs
set_option maxRecDepth 100000
def gm(t:Int):List Int→List Int
 |[]=>[t]
 |x::r=>if x<t then x::gm t r else t::x::r
theorem Xg(t:Int)(l:List Int):gm t l≠[]:=by
 cases l with
 |nil=>simp[gm]
 |cons x r=>simp only[gm];split<;>simp
theorem OQ{t:Int}:∀{l:List Int} {k:Nat},At l t k→dM l k t=gm t l
 |[],k,h=>by
  have:=h.1;have :k=0:=by simpa using this
  subst this;rfl
 |x::r,0,h=>by
  have:=h.2.2 0 (by simp) (aV _);simp only[p7] at this;simp only[dM,vT,jm,tZ,gm];rw[if_neg (by omega)]
 |x::r,k+1,h=>by
  have h1:=h.2.1 0 (by simp) (Nat.succ_pos k);simp only[p7] at h1;have ih:=OQ (t:=t) (l:=r) (k:=k) ⟨by have:=h.1;simpa using this,fun i hi iW=>h.2.1 (i+1) (by simpa using hi) (by omega),fun i hi iW=>h.2.2 (i+1) (by simpa using hi) (by omega)⟩;simp only[gm];rw[if_pos h1,←ih];simp[dM]
theorem OR{f:Nat}{fc:FC}{aa:List D}{y:D}{H:Hp}{Q:Hp→Prop}(hF:pg.F f=some fc)(kP:pg.lib f aa H=none)(hn:aa.length=fc.np)(hd:fc.iu=none)(hz:fc.aH=false)
    (h:post (fun o e H1=>(o= .ret∨o= .norm)∧lX pg.G e H1 fc.res=some y∧Q H1) (ay (call pg) pg.G bf fc.body ⟨entry 0 aa,H⟩)):
    ∃Hs,call pg f aa H=some (.val y,Hs)∧Q Hs:=by
 obtain⟨o,e,H1,hx,ho,hr,hq⟩:=bJ h;have dY:finish pg.G fc.res (some (o,⟨e,H1⟩))=some (.val y,H1):=by
  rcases ho with rfl |rfl
  ·simp only[finish,hr]
  ·simp only[finish,hr]
 exact⟨H1,tF kP hF hn (by simp only[hz,mO,iT,hd,hx,dY];rfl),hq⟩
theorem akc{H:Hp}{c v m:Nat}{bs:Sl Bool}(cc:H.bx[c]? =some [.fn 73 [] [.box v 0]])(vv:H.bx[v]? =some [.p (dy bs)]){k s f:Nat}{r:Int}(eg:(els bs).length<4611686018427387904)(hk:k<4611686018427387904)(hb:(els bs).getD k false=false):
    call pg 76 [.p (.agg [.int .i64 ((k+1 :Nat):Int),.int .i64 (s:Int),.int .i64 (f:Int),.int .i64 r]),.box c 0,.box m 0] H=some (.val .undef,⟨H.bx++[([.p (.int .i64 ((k+1 :Nat):Int)),.p (.int .i64 ((s:Nat):Int)),.p (.int .i64 ((f:Nat):Int)),.p (.int .i64 r)]:List D)],H.tk⟩):=by
 have dr:=(az.1 cc).1;have C6:=(az.1 vv).1;have kg:∀cs:List D,(H.bx++[cs])[c]? =some [.fn 73 [] [.box v 0]]:=fun cs=>by rw[cH dr,cc]
 have rR:∀cs:List D,(H.bx++[cs])[v]? =some [.p (dy bs)]:=fun cs=>by rw[cH C6,vv]
 have hval:=OM (H:=⟨H.bx++[([.p (.int .i64 ((k+1 :Nat):Int)),.p (.int .i64 ((s:Nat):Int)),.p (.int .i64 ((f:Nat):Int)),.p (.int .i64 r)]:List D)],H.tk⟩) bs k eg hk (rR _);rw[hb] at hval;generalize ((k+1 :Nat):Int)=k1 at *;generalize ((s:Nat):Int)=s1 at *;generalize ((f:Nat):Int)=f1 at *;have hf:=rf Nc
 conv at hf=>rhs;reduce
 obtain⟨Hs,h1,h2⟩:=OR (f:=76) (y:=.undef) (H:=H) (Q:=fun Hs=>Hs=⟨H.bx++[[.p (.int .i64 k1),.p (.int .i64 s1),.p (.int .i64 f1),.p (.int .i64 r)]],H.tk⟩) (aa:=[.p (.agg [.int .i64 k1,.int .i64 s1,.int .i64 f1,.int .i64 r]),.box c 0,.box m 0]) hf rfl rfl rfl rfl (by
  clear hf;simp[kg,hval])
 rw[h1,h2]
theorem JI{cs:List D}{i:Nat}{d:D}(h:cs[i]? =some d)(hd:aU [d]=false):aU cs=false:=by
 match cs,h with
 |[],_=>rfl
 |[a],h=>
  cases i with
  |zero=>cases h;exact hd
  |succ i=>simp at h
 |a::b::r,_=>cases a<;>rfl
theorem akd{H:Hp}{d:D}{l:List Int}(h:gy H d l):aU [d]=false:=by
 cases h<;>rfl
theorem ake{cs:List D}{j:Nat}(h:j<cs.length)(d:D):aE cs j [d]=cs.set j d:=by
 unfold aE;rw[List.set_eq_take_append_cons_drop,if_pos h];simp
theorem Xh(a b:D):aE [a] 0 [b]=[b]:=rfl
theorem JJ(x:Nat):(3+2*x=2)=False:=by simp;omega
theorem oY(a b:D)(r:List D):aU (a::b::r)=false:=by cases a<;>rfl
theorem zY(f:Nat)(a c:List D):aU [.fn f a c]=false:=rfl
theorem akf(b e n sz s:Nat)(i:Int):eN none s (.aB b e n sz) i=if sz=s∧0≤i∧i<n then some (.box b (i.toNat*s)) else none:=rfl
theorem akg{H:Hp}{lab:Nat→cL}{c v m:Nat}{at_:D}{al:List Int}{bs:Sl Bool}{st lp:Int}{S:List (List (Int×List Int))}(w:Wk H lab c v m at_ al bs st lp S)
    {k s f:Nat} {r:Int} (eg:(els bs).length<4611686018427387904) (hk:k<4611686018427387904) (hb:(els bs).getD k false=true) {R:List (Int×List Int)} {a:Int} {l:List Int} (hR:S[s]? =some R) (hf:R[f]? =some (a,l)) (hs:dw l) (hl:l.length<1000000) (FI:H.bx.length<1000000000):
    ∃Hs j6,call pg 76 [.p (.agg [.int .i64 ((k+1 :Nat):Int),.int .i64 (s:Int),.int .i64 (f:Int),.int .i64 r]),.box c 0,.box m 0] H=some (.val .undef,Hs)∧
     Wk Hs j6 c v m at_ al bs st lp (S.set s (R.set f (a,gm r l)))∧H.bx.length≤Hs.bx.length∧Hs.bx.length≤H.bx.length+3∧∀j,j<H.bx.length→j6 j=lab j:=by
 have dk:s<S.length:=(az.1 hR).1;have fQ:f<R.length:=(az.1 hf).1;have w1:=w.snoc [.p (.int .i64 ((k+1 :Nat):Int)),.p (.int .i64 ((s:Nat):Int)),.p (.int .i64 ((f:Nat):Int)),.p (.int .i64 r)] (by simp[D.aD,D.refs]) rfl H.tk;have w2:=w1.snoc [.p (.int .i64 r)] (by simp[D.aD,D.refs]) rfl H.tk;obtain⟨s0,ds,q,cs,d',g1,g2,g3,g4,gq,g5,g6,g7,g8,g9,g9b,-⟩:=w1.ins hR hf (Xg r l);obtain⟨s0',eG,q',bL,d'',u1,u2,u3,u4,uq,u5,u6,u7,u8,u9,u9b,u10⟩:=w2.ins hR hf (Xg r l);have lf:∀{i:Nat} {es fs:List D},(H.bx++[([.p (.int .i64 ((k+1 :Nat):Int)),.p (.int .i64 ((s:Nat):Int)),.p (.int .i64 ((f:Nat):Int)),.p (.int .i64 r)]:List D)])[i]? =some es→(H.bx++[([.p (.int .i64 ((k+1 :Nat):Int)),.p (.int .i64 ((s:Nat):Int)),.p (.int .i64 ((f:Nat):Int)),.p (.int .i64 r)]:List D)]++[fs])[i]? =some es:=fun {i es fs} h=>by
  rw[cH (az.1 h).1,h]
 dsimp only at g1 g2 g5 u1 u2 u5;have e1:=(lf g1).symm.trans u1;simp only[bI,FV,D.aB.injEq,and_true,true_and] at e1;subst e1;have e2:=(lf g2).symm.trans u2;cases e2;have e4:=g4.symm.trans u4;simp only[bI,D.aB.injEq,and_true] at e4;subst e4;have e5:=(lf g5).symm.trans u5;cases e5;have e7:=g7.symm.trans u7;cases e7;have kg:=w1.cc;have rR:=w1.vv;dsimp only at kg rR;have hval:=OM (H:=⟨H.bx++[([.p (.int .i64 ((k+1 :Nat):Int)),.p (.int .i64 ((s:Nat):Int)),.p (.int .i64 ((f:Nat):Int)),.p (.int .i64 r)]:List D)],H.tk⟩) bs k eg hk rR;rw[hb] at hval;obtain⟨kk,eX,eH⟩:=g8.search r (by omega) hs;have ig:=eX.1;have hN:(H.bx++[([.p (.int .i64 ((k+1 :Nat):Int)),.p (.int .i64 ((s:Nat):Int)),.p (.int .i64 ((f:Nat):Int)),.p (.int .i64 r)]:List D)]++[([.p (.int .i64 r)]:List D)])[(H.bx++[([.p (.int .i64 ((k+1 :Nat):Int)),.p (.int .i64 ((s:Nat):Int)),.p (.int .i64 ((f:Nat):Int)),.p (.int .i64 r)]:List D)]).length]? =some [.p (.int .i64 r)]:=by simp
 obtain⟨bx,i1,i2,i3,i4⟩:=u8.insert (j:=(H.bx++[([.p (.int .i64 ((k+1 :Nat):Int)),.p (.int .i64 ((s:Nat):Int)),.p (.int .i64 ((f:Nat):Int)),.p (.int .i64 r)]:List D)]).length) (k:=kk) (t:=r) hN (fun h=>absurd (g9b _ h) (Nat.lt_irrefl _)) ig (by omega);rw[OQ eX] at i1;have hlen:(gm r l).length=l.length+1:=by rw[←OQ eX];simp[dM];omega
 obtain⟨dG,z1,z2⟩:=u10 bx H.tk i2 i3 i4;have Xi:bx[q]? =some cs:=(i3 q u9).trans u5;have m1:=JI g4 rfl;have m2:=JI g7 (akd g8);have iB:=ake (cs:=cs) (j:=f*2+1) (by omega) (.aB (H.bx++[([.p (.int .i64 ((k+1 :Nat):Int)),.p (.int .i64 ((s:Nat):Int)),.p (.int .i64 ((f:Nat):Int)),.p (.int .i64 r)]:List D)]++[([.p (.int .i64 r)]:List D)]).length 3 (l.length+1) 1);rw[hlen] at z1;rw[Ag 2 f] at z1 g7;have mj:q<bx.length:=(az.1 Xi).1;have akj:(bx++[cS (gm r l)])[q]? =some cs:=by rw[cH mj,Xi]
 refine⟨_,dG,?_,z1,?_,?_,fun j hj=>z2 j (by simp;omega)⟩
 ·have kL:=g1;have hsI:((s:Nat):Int)<((S.length:Nat):Int):=by omega
  have hfI:((f:Nat):Int)<((R.length:Nat):Int):=by omega
  simp only[oc,iq,dZ,fW,jN,jm,eS,vV] at i1 iB;simp only[iq,dZ,fW] at gq;have lO:f*2+1+1≤R.length*2:=by omega
  generalize ((k+1 :Nat):Int)=k1 at *;have hf:=rf Nc
  conv at hf=>rhs;reduce
  obtain⟨Hs,h1,h2⟩:=OR (f:=76) (y:=.undef) (H:=H) (Q:=fun Hs=>Hs=⟨(bx++[cS (gm r l)]).set q (cs.set (f*2+1) (.aB (H.bx++[([.p (.int .i64 k1),.p (.int .i64 ((s:Nat):Int)),.p (.int .i64 ((f:Nat):Int)),.p (.int .i64 r)]:List D)]++[([.p (.int .i64 r)]:List D)]).length 3 (l.length+1) 1)),H.tk⟩) (aa:=[.p (.agg [.int .i64 k1,.int .i64 (s:Int),.int .i64 (f:Int),.int .i64 r]),.box c 0,.box m 0]) hf rfl rfl rfl rfl (by
   clear hf;simp[-aE,-aU,oY,zY,JJ,kg,hval,kL,g2,g4,g5,g7,dk,fQ,m1,m2,eH,akf];rw[if_pos (by left;split;rfl;split<;>rfl)];simp[-aE,-aU,oY,JJ,Xh,Wg,lO,g5,g7,m2,i1,akj,iB,g6];rw[if_pos ⟨by rw[if_pos (by omega)];omega,.inl (by split;(split<;>rfl);(split<;>rfl))⟩];simp)
  rw[h1,h2]
 ·simp[i2];omega
 ·simp[i2]
abbrev fe:=List (List (Int×List Int))
def CB(s f:Nat)(r:Int)(S:fe):fe:=S.modify s fun R=>R.modify f fun p=>(p.1,gm r p.2)
theorem akl{S:fe}{s f:Nat}{r:Int}{R:List (Int×List Int)}{a:Int}{l:List Int}(hR:S[s]? =some R)(hf:R[f]? =some (a,l)):S.set s (R.set f (a,gm r l))=CB s f r S:=by
 unfold CB;apply oh;intro i;rw[vX,PO];by_cases h:s=i
 ·subst h;have hl:=(az.1 hR).1;rw[if_pos rfl,if_pos hl,hR];show some _=some (if s=s then _ else _);rw[if_pos rfl];congr 1
  apply oh;intro k;rw[vX,PO];by_cases h:f=k
  ·subst h;have hl:=(az.1 hf).1;rw[if_pos rfl,if_pos hl,hf];show some _=some (if f=f then _ else _);rw[if_pos rfl]
  ·rw[if_neg h];cases R[k]? with
   |none=>rfl
   |some x=>
    show some _=some (if f=k then _ else _);rw[if_neg h]
 ·rw[if_neg h];cases S[i]? with
  |none=>rfl
  |some x=>
   show some _=some (if s=i then _ else _);rw[if_neg h]
def JK(s f:Nat)(S:fe):Prop:=∃R a l,S[s]? =some R∧R[f]? =some (a,l)∧dw l∧l.length<1000000
def n8(bs:List Bool)(k s f:Nat)(r:Int)(S:fe):fe:=if bs.getD k false=true then CB s f r S else S
theorem Xj{H:Hp}{lab:Nat→cL}{c v m:Nat}{at_:D}{al:List Int}{bs:Sl Bool}{st lp:Int}{S:fe}(w:Wk H lab c v m at_ al bs st lp S)
    {k s f:Nat} {r:Int} (eg:(els bs).length<4611686018427387904) (hk:k<4611686018427387904) (hp:JK s f S) (FI:H.bx.length<1000000000):
    ∃H2 lab2,av (call pg) 76 [.p (.agg [.int .i64 ((k+1 :Nat):Int),.int .i64 (s:Int),.int .i64 (f:Int),.int .i64 r]),.box c 0,.box m 0] H=some (.val .undef,H2)∧
     Wk H2 lab2 c v m at_ al bs st lp (n8 (els bs) k s f r S)∧H2.tk=H.tk∧H.bx.length≤H2.bx.length∧H2.bx.length≤H.bx.length+3∧(∀j,j<H.bx.length→lab2 j=lab j)∧∀j,j<H.bx.length→lab j= .none→H2.bx[j]? =H.bx[j]?:=by
 obtain⟨R,a,l,hR,hf,hs,hl⟩:=hp;refine w.call (K:=3) rfl ?_ (by simp[D.aD,D.refs]) (by simp[D.aD,D.refs]) ?_
 ·intro x hx;have :x=c∨x=m:=by simpa[D.aD,D.refs] using hx
  rcases this with rfl |rfl
  ·rw[w.cl];simp
  ·rw[w.mod.1];simp
 ·intro g H' dG at' w' _ hlen _;show ∃Hs j6,call pg 76 [.p (.agg [.int .i64 ((k+1 :Nat):Int),.int .i64 (s:Int),.int .i64 (f:Int),.int .i64 r]),.box (g c) 0,.box (g m) 0] H'=some (.val .undef,Hs)∧_;unfold n8;cases hb:(els bs).getD k false with
  |true=>
   rw[if_pos rfl,←akl hR hf];exact akg w' eg hk hb hR hf hs hl (by omega)
  |false=>
   rw[if_neg (by simp)];exact⟨_,_,akc w'.cc w'.vv eg hk hb,w'.snoc _ (by simp[D.aD,D.refs]) rfl _,by simp,by simp,fun j hj=>rfl⟩
theorem Wk.loc{H:Hp}{lab:Nat→cL}{c v m:Nat}{at_:D}{al:List Int}{bs:Sl Bool}{st lp:Int}{S:fe}(w:Wk H lab c v m at_ al bs st lp S){nb:Nat}(fZ:nb≤H.bx.length)(hc:c<nb)(hm:m<nb)(cw:H.tk=[])(o:Out)(ho:∀f g,o.ren f g=some o):
    ∃H3 rF,(∀e,∃e3,dJ nb 0 (o,⟨e,H⟩)=(o,⟨e3,H3⟩)∧(e3=e∨e3=e.map fun y=>(y.1,(y.2.ren (below nb) (below 0)).getD .dead)))∧Wk H3 rF c v m at_ al bs st lp S∧H3.tk=[]∧nb≤H3.bx.length∧H3.bx.length≤H.bx.length∧(∀j,j<nb→rF j=lab j)∧∀j,j<nb→H3.bx[j]? =H.bx[j]?:=by
 unfold dJ;dsimp only;simp only[if_pos (show nb≤H.bx.length∧0≤H.tk.length from⟨fZ,b9 _⟩),ho];cases hx:aP (D.ba (below nb) (below 0)) (H.bx.take nb) with
 |none=>exact⟨H,lab,fun e=>⟨e,rfl,.inl rfl⟩,w,cw,fZ,aV _,fun _ _=>rfl,fun _ _=>rfl⟩
 |some bx=>
  have hg:∀r j,below nb r=some j→j=id r:=fun r j h=>by
   unfold below at h;split at h
   ·cases h;rfl
   ·cases h
  have ht:∀cs∈H.bx.take nb,D.bz cs=[]:=fun cs ak=>by
   obtain⟨i,hi⟩:=eC (j8 ak);exact w.tk i cs hi
  have h1:=M6 hg _ bx ht hx;have hid:∀cs:List D,D.dn id cs=cs:=wR;have h2:bx=H.bx.take nb:=by rw[h1];exact(sV fun cs _=>hid cs).trans (amV _)
  subst h2;have akn:=M5 _ _ hx;have hr:∀i,i<nb→∀cs,H.bx[i]? =some cs→∀x∈D.aD cs,x<nb:=fun i hi cs ak x iX=>by
   have ey:cs∈H.bx.take nb:=bS (i:=i) (by rw[j7,if_pos hi,ak]);obtain⟨j,hj⟩:=akn cs ey x iX;unfold below at hj;split at hj
   ·assumption
   ·cases hj
  obtain⟨rF,t1,t2⟩:=w.take fZ hr hm hc [];refine⟨⟨H.bx.take nb,H.tk.take 0⟩,rF,fun e=>⟨_,rfl,.inr rfl⟩,by simpa[cw] using t1,by simp,by simp;omega,by simp;omega,t2,fun j hj=>?_⟩;simp only;rw[j7,if_pos hj]
theorem OS{Q:Out→Env→Hp→Prop}{nb:Nat}{o:Out}{H H3:Hp}{P:Env→Env→Prop}(h:∀e,∃e3,dJ nb 0 (o,⟨e,H⟩)=(o,⟨e3,H3⟩)∧P e e3)(hq:∀e,Q o e H3){e:Env}:post Q (some (dJ nb 0 (o,⟨e,H⟩))):=by
 obtain⟨e3,h1,-⟩:=h e;rw[h1];exact hq e3
attribute [local irreducible] oT oR oS eW
theorem FJ(cs:List PD)(o:Nat):aU [.ro cs o]=false:=rfl
def qA(bs:List Bool)(k f:Nat)(r:Int):Nat→fe→fe
 | 0,S=>S
 |n+1,S=>n8 bs k (n+1) f r (qA bs k f r n S)
structure Fl (H:Hp) (lab:Nat→cL) (c v m n2:Nat) (at_:D) (al:List Int) (bs:Sl Bool) (st lp:Int) (C:List PD) (S:fe):Prop where
 w:Wk H lab c v m at_ al bs st lp S
 b2:H.bx[n2]? =some [.ro C 0]
 l2:lab n2= .none
 b3:H.bx[n2+1]? =some [.fn 76 [] [.box c 0,.box m 0]]
 l3:lab (n2+1)= .none
 tk:H.tk=[]
theorem ako{c v m n2 n4:Nat}{at_:D}{al:List Int}{bs:Sl Bool}{st lp aY:Int}{S0:fe}{so f3 f4:PD}{fi:Sl Fi}{a:Sl Int}{bb:Sl Bn}{K:Sl (Int×Int)}{k f:Nat}{r:Int}{x:PD}(eg:(els bs).length<4611686018427387904)(hk:k<4611686018427387904)(cC:1≤aY∧aY≤4)
    (bV:∀n:Nat,((n+1 :Nat):Int)<aY→JK (n+1) f (qA (els bs) k f r n S0)) {H0:Hp} {kq:Nat→cL} (w0:Fl H0 kq c v m n2 at_ al bs st lp (iE so f3 f4 fi a aY bb K) S0) (h4:H0.bx[n4]? =some [.p (.int .i64 ((k+1 :Nat):Int)),.p x,.p (.int .i64 ((f:Nat):Int)),.p (.int .i64 r)]) (l40:kq n4= .none) (FI:H0.bx.length<900000000) (_:x.one=true):
    post (fun o _ H'=>o= .exit 2∧H0.bx.length≤H'.bx.length∧H'.bx.length≤H0.bx.length+12∧∃dG,(∀j,j<H0.bx.length→dG j=kq j)∧Fl H' dG c v m n2 at_ al bs st lp (iE so f3 f4 fi a aY bb K) (qA (els bs) k f r (aY.toNat-1) S0)) (eu (call pg) pg.G [2,3,4,5] (bd Bh 0) ⟨[(2,.box n2 0),(3,.box (n2+1) 0),(4,.box n4 0),(5,.p (.int .i64 1))],H0⟩):=by
 refine eY (c:=call pg) (G:=pg.G) (σ:=Nat×Hp) (fun s=>[(2,.box n2 0),(3,.box (n2+1) 0),(4,.box n4 0),(5,.p (.int .i64 ((s.1+1 :Nat):Int)))]) (fun s=>s.2) (fun s=>4-s.1)
  (fun s=>((s.1+1 :Nat):Int)≤aY∧H0.bx.length≤s.2.bx.length∧s.2.bx.length≤H0.bx.length+3*s.1∧s.2.bx[n4]? =some [.p (.int .i64 ((k+1 :Nat):Int)),.p x,.p (.int .i64 ((f:Nat):Int)),.p (.int .i64 r)]∧∃dG,(∀j,j<H0.bx.length→dG j=kq j)∧Fl s.2 dG c v m n2 at_ al bs st lp (iE so f3 f4 fi a aY bb K) (qA (els bs) k f r s.1 S0)) _ ?_ (0,H0) ⟨by simpa using cC.1,by simp,by simp,h4,kq,fun _ _=>rfl,w0⟩
 have h40:=(az.1 h4).1;rintro⟨n,H⟩ ⟨i1,i0,i2,i4,lab,CC,w⟩;dsimp only at i1 i0 i2 i4 w⊢;have l4:lab n4= .none:=(CC _ h40).trans l40;have hc:=(az.1 w.w.cc).1;have hm:m<H.bx.length:=w.w.lt (by rw[w.w.mod.1];simp);have aC:=w.b2;have dW:=w.b3;have zZ:=(az.1 aC).1;have ny:=(az.1 dW).1;have vK:=(az.1 i4).1;have cw:=w.tk;by_cases ah:((n+1 :Nat):Int)<aY
 ·obtain⟨H2,lab2,xx,w2,q1,q2,q3,q4,q5⟩:=Xj w.w (k:=k) (s:=n+1) (f:=f) (r:=r) eg hk (bV n ah) (by omega);obtain⟨H3,rF,xy,y2,y3,y4,y5,y6,y7⟩:=w2.loc (nb:=H.bx.length) q2 hc hm (q1.trans cw) .norm (fun _ _=>rfl);obtain⟨e3,y1,y8⟩:=xy [(2,.box n2 0),(3,.box (n2+1) 0),(4,.box n4 0),(5,.p (.int .i64 ((n+1+1 :Nat):Int)))];have inc:=bw (k:=n+1) (by omega);refine aX (Q:=fun o e H'=>o= .norm∧H'=H3∧e=e3) ?_ fun o e H' hh=>.inl ?_
  ·generalize ((k+1 :Nat):Int)=k1 at *;generalize ((n+1+1 :Nat):Int)=n5 at *;generalize ((n+1 :Nat):Int)=n1 at *;unfold iE at aC dW
   conv in bd Bh 0=>reduce
   simp[-dJ,-aU,oY,zY,FJ,aC,dW,cw,i4,ah,xx,inc,y1]
  ·obtain⟨rfl,rfl,rfl⟩:=hh;refine⟨(n+1,H'),⟨by dsimp only;omega,by dsimp only;omega,by dsimp only;omega,?_,rF,?_,?_⟩,by dsimp only;omega,rfl,rfl,?_⟩
   ·dsimp only;rw[y7 _ vK,q5 _ vK l4,i4]
   ·intro j hj;rw[y6 _ (by omega),q4 _ (by omega)];exact CC j hj
   ·exact⟨y2,by rw[y7 _ zZ,q5 _ zZ w.l2,aC],by rw[y6 _ zZ,q4 _ zZ,w.l2],by rw[y7 _ ny,q5 _ ny w.l3,dW],by rw[y6 _ ny,q4 _ ny,w.l3],y3⟩
   ·rcases y8 with rfl |rfl
    ·rfl
    ·generalize ((n+1+1 :Nat):Int)=n5;simp[Env.keep,Env.get,D.ren,below,zZ,ny,vK]
 ·have hn:n=aY.toNat-1:=by omega
  obtain⟨H3,rF,xy,y2,y3,y4,y5,y6,y7⟩:=w.w.loc (nb:=H.bx.length) (aV _) hc hm cw (.exit 2) (fun _ _=>rfl);obtain⟨e3,y1,y8⟩:=xy [(2,.box n2 0),(3,.box (n2+1) 0),(4,.box n4 0),(5,.p (.int .i64 ((n+1 :Nat):Int))),(33,.p (.bool false))];refine aX (Q:=fun o e H'=>o= .exit 2∧H'=H3) ?_ fun o e H' hh=>.inr ?_
  ·generalize ((n+1 :Nat):Int)=n1 at *;unfold iE at aC dW
   conv in bd Bh 0=>reduce
   simp[-dJ,-aU,FJ,aC,cw,ah,y1]
  ·obtain⟨rfl,rfl⟩:=hh;refine⟨by simp,rfl,by omega,by omega,rF,fun j hj=>(y6 _ (by omega)).trans (CC j hj),?_⟩;rw[←hn];exact⟨y2,by rw[y7 _ zZ,aC],by rw[y6 _ zZ,w.l2],by rw[y7 _ ny,dW],by rw[y6 _ ny,w.l3],y3⟩
theorem akr(cs:List PD)(o:Nat):(D.ro cs o).cells=[.ro cs o]:=rfl
theorem aks(cs:List PD)(o:Nat):(D.ro cs o).one=true:=rfl
theorem OT(f:Nat)(a c:List D):(D.fn f a c).one=true:=rfl
theorem akt{c:bC}{G:Nat→Option (List PD)}{Q:Out→Env→Hp→Prop}{xs:List (List D)}{ft b:SC}{env:Env}{ps:List Nat}{kb:Hp→Bool}{H:Hp}{kk:Nat}(I:Nat→Hp→Prop)(h0:I 0 H)
    (h:∀i x H,xs[i]? =some x→I i H→x.length=ps.length∧post (fun o e H1=>o= .norm∧post (fun o _ H2=>o= .norm∧kb H2=true∧I (i+1) H2) (ay c G bf b ⟨e,H1⟩)) (ay c G bf ft ⟨mN env ps x,H⟩))
    (hq:∀H',I xs.length H'→Q .norm env H'):post Q (sy kk (yM c G (some xs) ft b env ps kb H)):=by
 obtain⟨H',h1,h2⟩:=Jj (kb:=kb) I xs 0 H h0 fun i x H hx hI=>by simpa using h i x H hx (by simpa using hI)
 rw[eS] at h2;have h3:yM c G (some xs) ft b env ps kb H=some (.norm,⟨env,H'⟩):=h1;rw[h3];exact hq H' h2
def lu(bs:List Bool)(vs:List Bool)(st:Int)(S:fe)(e:Nat×Nat×Int×Int):fe:=
 if 0<e.2.1∨vs.getD e.2.2.1.toNat false=true then n8 bs (e.1-1) e.2.1 e.2.2.1.toNat e.2.2.2 S
 else qA bs (e.1-1) e.2.2.1.toNat e.2.2.2 (st.toNat-1) (n8 bs (e.1-1) e.2.1 e.2.2.1.toNat e.2.2.2 S)
def Xk(bs:List Bool)(vs:List Bool)(st:Int)(S:fe)(e:Nat×Nat×Int×Int):Prop:=
 JK e.2.1 e.2.2.1.toNat S∧(¬(0<e.2.1∨vs.getD e.2.2.1.toNat false=true)→∀n:Nat,((n+1 :Nat):Int)<st→JK (n+1) e.2.2.1.toNat (qA bs (e.1-1) e.2.2.1.toNat e.2.2.2 n (n8 bs (e.1-1) e.2.1 e.2.2.1.toNat e.2.2.2 S)))
theorem Wk.Cn{H:Hp}{lab:Nat→cL}{c v m:Nat}{at_:D}{al:List Int}{bs:Sl Bool}{st lp:Int}{S:fe}(w:Wk H lab c v m at_ al bs st lp S)(t:List Nat):Wk ⟨H.bx,t⟩ lab c v m at_ al bs st lp S:=
 ⟨w.mod.ext fun _ _ h=>h,w.ats.other fun _ _=>rfl,w.nv,w.cc,w.cl,w.vv,w.vl,w.rf,w.tk,w.fr⟩
theorem aku{c v m:Nat}{at_:D}{al:List Int}{bs:Sl Bool}{st lp aY:Int}{S0:fe}{so f3 f4:PD}{fi:Sl Fi}{a:Sl Int}{bb:Sl Bn}(eg:(els bs).length<4611686018427387904)(cC:1≤aY∧aY≤4)
    (fA:(els bb).length=(els fi).length) (hl:(els bb).length≤1000) (hu:∀b∈els bb,(els b.up.tu).length≤900)
    (bV:∀(j:Nat) e,(dX (els fi) (els bb) aY)[j]? =some e→Xk (els bs) ((els fi).map Fi.va) aY (((dX (els fi) (els bb) aY).take j).foldl (lu (els bs) ((els fi).map Fi.va) aY) S0) e)
    {H:Hp} {kq:Nat→cL} (w:Wk H kq c v m at_ al bs st lp S0) (cw:H.tk=[]) (FI:H.bx.length<100000000):
    ∃Hs j6,call pg 59 [.ro (iE so f3 f4 fi a aY bb (mr (cB 0 (els bb)))) 0,.fn 76 [] [.box c 0,.box m 0]] H=some (.val .undef,Hs)∧
     Wk Hs j6 c v m at_ al bs st lp ((dX (els fi) (els bb) aY).foldl (lu (els bs) ((els fi).map Fi.va) aY) S0)∧H.bx.length≤Hs.bx.length∧Hs.bx.length≤H.bx.length+100000000∧∀j,j<H.bx.length→j6 j=kq j:=by
 have hg:=Ov (so:=so) (f3:=f3) (f4:=f4) (a:=a) cC.2 fA hl hu;have hv:∀(j:Nat) e,(dX (els fi) (els bb) aY)[j]? =some e→e.1=aW aY+j+1:=Cp ((els fi).map Fi.va) (cB 0 (els bb)) aY.toNat 0 (aW aY);have ey:∀e∈dX (els fi) (els bb) aY,e.2.1<aY.toNat∧∃k:Nat,e.2.2.1=(k:Int)∧k<(els fi).length:=fun e he=>by
  obtain⟨_,h2,h3⟩:=xn _ _ _ _ _ e he;obtain⟨k,h4,_,h5⟩:=zQ _ _ _ h3;exact⟨by omega,k,h4,by omega⟩
 have hLl:(dX (els fi) (els bb) aY).length≤4*(1000*900):=by
  have rV:(cB 0 (els bb)).length≤1000*900:=by
   have h1:=Ci (els bb) 0 900 hu;have h5:(els bb).length*900≤1000*900:=kz 900 hl;omega
  have h1:=Fo ((els fi).map Fi.va) (cB 0 (els bb)) aY.toNat 0 (aW aY);have h2:aY.toNat*(cB 0 (els bb)).length≤4*(1000*900):=ug (by omega) rV;exact gA h1 h2
 have hN4:aW aY≤4:=by unfold aW;split<;>omega
 have w1:=w.snoc [.ro (iE so f3 f4 fi a aY bb (mr (cB 0 (els bb)))) 0] (by simp[D.aD,D.refs]) rfl H.tk;have w2:=w1.snoc [.fn 76 [] [.box c 0,.box m 0]] (by
  intro x hx;have :x=c∨x=m:=by simpa[D.aD,D.refs] using hx
  rcases this with rfl |rfl
  ·rw[w.cl];simp
  ·rw[w.mod.1];simp) rfl H.tk
 have hF:Fl ⟨H.bx++[[.ro (iE so f3 f4 fi a aY bb (mr (cB 0 (els bb)))) 0]]++[[.fn 76 [] [.box c 0,.box m 0]]],H.tk⟩ kq c v m H.bx.length at_ al bs st lp (iE so f3 f4 fi a aY bb (mr (cB 0 (els bb)))) S0:=
  ⟨w2,by simp,w.fr _ (aV _),by simp,w.fr _ (by omega),cw⟩
 generalize hN:H.bx.length=N at *;generalize mr (cB 0 (els bb))=K at *;generalize dX (els fi) (els bb) aY=L at *;have ae:=rf (bd Bh 0)
 conv at ae=>rhs;reduce
 have hf:=rf Bh
 conv at hf=>rhs;reduce
 rw[←ae] at hf;obtain⟨Hs,h1,j6,h2⟩:=OR (f:=59) (y:=.undef) (H:=H) (Q:=fun Hs=>∃j6,Wk Hs j6 c v m at_ al bs st lp (L.foldl (lu (els bs) ((els fi).map Fi.va) aY) S0)∧N≤Hs.bx.length∧Hs.bx.length≤N+100000000∧∀j,j<N→j6 j=kq j) (aa:=[.ro (iE so f3 f4 fi a aY bb K) 0,.fn 76 [] [.box c 0,.box m 0]]) hf rfl rfl rfl rfl (by
  clear hf ae;simp[-dJ,-aU,FJ,akr,aks,OT,cw,hN,hg];refine akt (fun j H'=>H'.bx.length≤N+2+20*j∧N+2≤H'.bx.length∧∃lab,(∀i,i<N→lab i=kq i)∧Fl H' lab c v m N at_ al bs st lp (iE so f3 f4 fi a aY bb K) ((L.take j).foldl (lu (els bs) ((els fi).map Fi.va) aY) S0)) ⟨by simp[hN],by simp[hN],kq,fun _ _=>rfl,by simpa[cw] using hF⟩ ?_ ?_
  ·rintro j x H fT ⟨i1,i2,lab,i3,w⟩;rw[cP] at fT;cases ht:L[j]? with
   |none=>rw[ht] at fT;cases fT
   |some e=>
    rw[ht] at fT;cases fT;refine⟨rfl,?_⟩;have hj:=(az.1 ht).1;have he:=hv j e ht;obtain⟨iL,k,iK,bW⟩:=ey e (bS ht);obtain⟨Jr,JL⟩:=bV j e ht;have hS:(L.take (j+1)).foldl (lu (els bs) ((els fi).map Fi.va) aY) S0=lu (els bs) ((els fi).map Fi.va) aY ((L.take j).foldl (lu (els bs) ((els fi).map Fi.va) aY) S0) e:=by
     rw[PH,ht,Option.toList_some,List.foldl_append,Af,List.foldl_nil]
    rw[hS];generalize (L.take j).foldl (lu (els bs) ((els fi).map Fi.va) aY) S0=S at *;obtain⟨e1,s,e3,r⟩:=e;dsimp only at he iL iK bW Jr JL;subst he iK;simp only[qF] at Jr JL;have aM:=lR bW;have pT:((els fi).map Fi.va).getD k false=(els fi)[k].va:=by simp[fE,bW]
    unfold lu;dsimp only;rw[show aW aY+j+1-1=aW aY+j by omega] at JL⊢;rw[qF];have tE:aW aY+j<4611686018427387904:=by omega
    generalize hk:aW aY+j=kv at *;have wa:=w.w.snoc [.p (.int .i64 ((kv+1 :Nat):Int)),.p (.int .i64 ((s:Nat):Int)),.p (.int .i64 ((k:Nat):Int)),.p (.int .i64 r)] (by simp[D.aD,D.refs]) rfl H.tk;obtain⟨H2,lab2,xx,w2,q1,q2,q3,q4,q5⟩:=Xj wa (k:=kv) (s:=s) (f:=k) (r:=r) eg tE Jr (by simp;omega);have aC:=w.b2;have dW:=w.b3;have CD:=w.tk;have n2l:=(az.1 aC).1;have n3l:=(az.1 dW).1;have Xl:∀(i:Nat) cs,H.bx[i]? =some cs→lab i= .none→H2.bx[i]? =some cs∧lab2 i= .none:=fun i cs h1 h2=>by
     have hl:=(az.1 h1).1;refine⟨?_,by rw[q4 i (by simp;omega),h2]⟩;rw[q5 i (by simp;omega) h2];dsimp only;rw[cH hl,h1]
    have h4:H2.bx[H.bx.length]? =some [.p (.int .i64 ((kv+1 :Nat):Int)),.p (.int .i64 ((s:Nat):Int)),.p (.int .i64 ((k:Nat):Int)),.p (.int .i64 r)]∧lab2 H.bx.length= .none:=by
     refine⟨?_,by rw[q4 _ (by simp)];exact w.w.fr _ (aV _)⟩;rw[q5 _ (by simp) (w.w.fr _ (aV _))];simp
    have vL:=Xl _ _ aC w.l2;have JM:=Xl _ _ dW w.l3;have hF2:Fl H2 lab2 c v m N at_ al bs st lp (iE so f3 f4 fi a aY bb K) (n8 (els bs) kv s k r S):=⟨w2,vL.1,vL.2,JM.1,JM.2,q1.trans CD⟩;have dr:=(az.1 w.w.cc).1;have cG:∀cs:List D,(H.bx++[cs])[N+1]? =some [.fn 76 [] [.box c 0,.box m 0]]:=fun cs=>by rw[cH n3l,dW]
    rw[CD] at xx;have ke:m<H.bx.length:=w.w.lt (by rw[w.w.mod.1];simp);simp only[iq,dZ,fW] at q2 q3 q4;by_cases hcnd:0<s∨(els fi)[k].va=true
    ·rw[if_pos (by rw[pT];exact hcnd)];obtain⟨H3,rF,xy,y2,y3,y4,y5,y6,y7⟩:=w2.loc (nb:=H.bx.length+1) q2 (by omega) (by omega) (q1.trans CD) .norm (fun _ _=>rfl);have hI:H3.bx.length≤N+2+20*(j+1)∧N+2≤H3.bx.length∧∃lab,(∀i,i<N→lab i=kq i)∧Fl H3 lab c v m N at_ al bs st lp (iE so f3 f4 fi a aY bb K) (n8 (els bs) kv s k r S):=
      ⟨by omega,by omega,rF,fun i hi=>by rw[y6 i (by omega),q4 i (by omega),i3 i hi],y2,by rw[y7 _ (by omega),vL.1],by rw[y6 _ (by omega),vL.2],by rw[y7 _ (by omega),JM.1],by rw[y6 _ (by omega),JM.2],y3⟩
     generalize n8 (els bs) kv s k r S=S1 at *;generalize iK:((kv+1 :Nat):Int)=k1 at *;by_cases lN:0<s
     ·have hsI:(0 :Int)<((s:Nat):Int):=by omega
      unfold iE at aC vL;simp[-dJ,-aU,oY,zY,sG,mN,oy,D.aD,D.refs,ins,qX,xl,CD,iK,lN,cG,xx,h4.1];exact OS xy fun _=>⟨rfl,hI⟩
     ·have iL:s=0:=by omega
      subst iL;have OU:(els fi)[k].va=true:=hcnd.resolve_left (by omega);have FK:=h4.1;simp only[gJ] at xx FK;unfold iE at aC vL;simp[-dJ,-aU,oY,zY,FJ,sG,mN,oy,D.aD,D.refs,ins,qX,xl,CD,iK,JJ,cG,vL.1,xx,FK,aM,OU];exact OS xy fun _=>⟨rfl,hI⟩
    ·rw[if_neg (by rw[pT];exact hcnd)];have iL:s=0:=by omega
     subst iL;have OU:(els fi)[k].va=false:=by
      cases hh:(els fi)[k].va with
      |false=>rfl
      |true=>exact absurd (.inr hh) hcnd
     have eR:=ako (n4:=H.bx.length) (x:=.int .i64 ((0 :Nat):Int)) (k:=kv) (f:=k) (r:=r) (so:=so) (f3:=f3) (f4:=f4) (fi:=fi) (a:=a) (bb:=bb) (K:=K) eg tE cC (JL (by rw[pT];exact hcnd)) hF2 h4.1 h4.2 (by omega) rfl;obtain⟨o5,e5,H5,hx5,rfl,g1,g2,aqh,g3,z7⟩:=bJ eR;obtain⟨H3,rF,xy,y2,y3,y4,y5,y6,y7⟩:=z7.w.loc (nb:=H.bx.length+1) (by omega) (by omega) (by omega) z7.tk .norm (fun _ _=>rfl);have hI:H3.bx.length≤N+2+20*(j+1)∧N+2≤H3.bx.length∧∃lab,(∀i,i<N→lab i=kq i)∧Fl H3 lab c v m N at_ al bs st lp (iE so f3 f4 fi a aY bb K) (qA (els bs) kv k r (aY.toNat-1) (n8 (els bs) kv 0 k r S)):=
      ⟨by omega,by omega,rF,fun i hi=>by rw[y6 i (by omega),g3 i (by omega),q4 i (by omega),i3 i hi],y2,by rw[y7 _ (by omega),z7.b2],by rw[y6 _ (by omega),z7.l2],by rw[y7 _ (by omega),z7.b3],by rw[y6 _ (by omega),z7.l3],y3⟩
     generalize n8 (els bs) kv 0 k r S=S1 at *;generalize qA (els bs) kv k r (aY.toNat-1) S1=S2 at *;generalize iK:((kv+1 :Nat):Int)=k1 at *;have FK:=h4.1;have aqi:=z7.tk;simp only[gJ] at xx FK;unfold iE at aC vL;simp[-dJ,-aU,oY,zY,FJ,sG,mN,oy,D.aD,D.refs,ins,qX,xl,CD,iK,JJ,cG,vL.1,xx,FK,aM,OU,hx5];exact OS xy fun _=>⟨rfl,hI⟩
  ·rintro H' ⟨i1,i2,lab,i3,w⟩;rw[cx] at i1 w;rw[oo] at w;exact⟨.inr rfl,lab,w.w,by omega,by omega,i3⟩)
 exact⟨Hs,j6,h1,h2⟩
end Go.Proofs.YtgplgbonlnodeaaGreatDoor
namespace Go.Proofs.YtgplgbonlnodeaaGreatDoor
open Go.Vs
def mD(lab:Nat→cL)(n:Nat)(L:cL)(j:Nat):cL:=if j=n then L else lab j
theorem CE(lab:Nat→cL)(n:Nat)(L:cL):mD lab n L n=L:=by simp[mD]
theorem xz(lab:Nat→cL){n j:Nat}(L:cL)(h:j≠n):mD lab n L j=lab j:=by simp[mD,h]
theorem pV{lab:Nat→cL}{n:Nat}(L:cL)(hn:lab n= .none){j:Nat}(h:lab j≠.none):mD lab n L j=lab j:=xz lab L fun e=>h (e▸hn)
theorem jl.z8{H H':Hp}{lab dG:Nat→cL}{s:Nat}{d:D}{R:List (Int×List Int)}(r:jl H lab s d R)
    (h2:∀i,lab i≠.none→dG i=lab i) (h1:∀i cs,lab i= .state s∨(∃f,lab i= .row s f)→H.bx[i]? =some cs→H'.bx[i]? =some cs):jl H' dG s d R:=by
 refine r.other fun m hm=>⟨h2 m ?_,fun cs=>h1 m cs hm⟩;rcases hm with h |⟨f,h⟩<;>rw[h]<;>simp
theorem jl.refs{H:Hp}{lab:Nat→cL}{s:Nat}{d:D}{R:List (Int×List Int)}(r:jl H lab s d R):∀x∈d.refs,lab x≠.none:=by
 intro x hx;rcases r with⟨rfl,_⟩ |⟨k,cs,rfl,h2,_⟩
 ·cases hx
 ·have :x=k:=by simpa[D.refs] using hx
  rw[this,h2];simp
variable {H : Hp} {lab : Nat → cL} {c v m : Nat} {at_ : D} {al : List Int} {bs : Sl Bool} {st lp : Int} {S : fe}
theorem Wk.mono(w:Wk H lab c v m at_ al bs st lp S){H':Hp}{dG:Nat→cL}(h2:∀i,lab i≠.none→dG i=lab i)
    (h1:∀i cs,lab i≠.none→lab i≠.state S.length→H.bx[i]? =some cs→H'.bx[i]? =some cs)
    (rf:∀(i:Nat) cs,H'.bx[i]? =some cs→∀x∈D.aD cs,dG x≠.none) (tk:∀(i:Nat) cs,H'.bx[i]? =some cs→D.bz cs=[]) (fr:∀j,H'.bx.length≤j→dG j= .none):Wk H' dG c v m at_ al bs st lp S:=by
 obtain⟨m1,sd,m2,m3⟩:=w.mod;refine⟨⟨?_,sd,h1 _ _ (by rw[m1];simp) (by rw[m1];simp) m2,?_⟩,w.ats.other fun i hi=>?_,fun i hi=>?_,h1 _ _ (by rw[w.cl];simp) (by rw[w.cl];simp) w.cc,?_,h1 _ _ (by rw[w.vl];simp) (by rw[w.vl];simp) w.vv,?_,rf,tk,fr⟩
 ·rw[h2 m (by rw[m1];simp)];exact m1
 ·rcases m3 with m3 |⟨s0,ds,q1,q2,q3,q4,q5⟩
  ·exact .inl m3
  ·refine .inr ⟨s0,ds,q1,by rw[h2 s0 (by rw[q2];simp)];exact q2,h1 _ _ (by rw[q2];simp) (by rw[q2];simp) q3,q4,fun s R hR=>?_⟩;obtain⟨d,w1,w2⟩:=q5 s R hR;have dk:=(az.1 hR).1;refine⟨d,w1,w2.z8 h2 fun i cs hi=>?_⟩;refine h1 i cs ?_ ?_
   ·rcases hi with h |⟨f,h⟩<;>rw[h]<;>simp
   ·rcases hi with h |⟨f,h⟩
    ·rw[h];simp;omega
    ·rw[h];simp
 ·have bp:=w.nv i hi;have hl:=w.lt (x:=i) (by rw[bp];simp);have hg:H.bx[i]? =some H.bx[i]:=aA hl;rw[hg,h1 i _ (by rw[bp];simp) (by rw[bp];simp) hg]
 ·rw[h2 i (by rw[w.nv i hi];simp)];exact w.nv i hi
 ·rw[h2 c (by rw[w.cl];simp)];exact w.cl
 ·rw[h2 v (by rw[w.vl];simp)];exact w.vl
theorem Aa{α:Type}{l:List α}{a:α}{i:Nat}{x:α}(h:(l++[a])[i]? =some x):(i<l.length∧l[i]? =some x)∨(i=l.length∧x=a):=by
 rcases iP i l.length with hl |hl
 ·rw[cH hl] at h;exact .inl ⟨hl,h⟩
 ·rw[eL hl] at h;have h2:=(az.1 h).1;have h3:i=l.length:=by simp at h2;omega
  subst h3;simp at h;exact .inr ⟨rfl,h.symm⟩
theorem n9{α:Type}{l:List α}{i:Nat}{x:α}(h:l[i]? =some x)(a:α):(l++[a])[i]? =some x:=by
 rw[cH (az.1 h).1,h]
theorem Wk.Xm(w:Wk H lab c v m at_ al bs st lp S)(cs:List D)(hr:∀x∈D.aD cs,lab x≠.none)(ht:D.bz cs=[])(tk:List Nat)(L:cL):Wk ⟨H.bx++[cs],tk⟩ (mD lab H.bx.length L) c v m at_ al bs st lp S:=by
 have hN:=w.fr _ (aV _);have ho:∀x,lab x≠.none→mD lab H.bx.length L x≠.none:=fun x hx=>by rw[pV L hN hx];exact hx
 refine w.mono (fun i hi=>pV L hN hi) (fun i cs _ _ h=>n9 h _) (fun i ds hi x hx=>?_) (fun i ds hi=>?_) fun j hj=>?_
 ·rcases Aa hi with⟨_,h⟩ |⟨_,rfl⟩
  ·exact ho x (w.rf i ds h x hx)
  ·exact ho x (hr x hx)
 ·rcases Aa hi with⟨_,h⟩ |⟨_,rfl⟩
  ·exact w.tk i ds h
  ·exact ht
 ·simp at hj;rw[xz lab L (by omega)];exact w.fr j (by omega)
theorem Ab{α:Type}{l:List α}{a:α}{k i:Nat}{x:α}(h:(l.set k a)[i]? =some x):(i=k∧x=a)∨(i≠k∧l[i]? =some x):=by
 rw[vX] at h;split at h
 ·rename_i e;split at h
  ·cases h;exact .inl ⟨e.symm,rfl⟩
  ·cases h
 ·rename_i e;exact .inr ⟨fun h=>e h.symm,h⟩
theorem Wk.aky(w:Wk H lab c v m at_ al bs st lp S){d d':D}{R:List (Int×List Int)}{l:List Int}{a:Int}(hd:jl H lab S.length d R)(hr:gy H d' l)(hl:∀i∈dS d',lab i= .row S.length R.length)(FL:R.length<1000000)(aq:R=[]→d= .p .aI)(oQ:d'.cJ=[]):
    ∃H1,gL 85 2 32 d 1 [.p (.int .i64 a),d'] H=some (.aB H.bx.length 85 (R.length+1) 2,H1)∧H1.tk=H.tk∧H1.bx.length=H.bx.length+1∧Wk H1 (mD lab H.bx.length (.state S.length)) c v m at_ al bs st lp S∧
     jl H1 (mD lab H.bx.length (.state S.length)) S.length (.aB H.bx.length 85 (R.length+1) 2) (R++[(a,l)])∧∀j cs,lab j≠.state S.length→H.bx[j]? =some cs→H1.bx[j]? =some cs:=by
 have hN:=w.fr _ (aV _);have jx:roomy (R.length+1) 32=true:=by simp[roomy];omega
 have Xn:∀x∈d'.refs,lab x≠.none:=by
  intro x hx;cases hr with
  |aI=>cases hx
  |emp=>cases hx
  |row i l hb aq=>
   have :x=i:=by simpa[D.refs] using hx
   rw[this,hl i (by simp[dS])];simp
 have ho:∀x,lab x≠.none→mD lab H.bx.length (.state S.length) x≠.none:=fun x hx=>by rw[pV _ hN hx];exact hx
 have tJ:∀i∈dS d',i<H.bx.length:=fun i hi=>w.lt (by rw[hl i hi];simp);rcases hd with⟨rfl,rfl⟩ |⟨k,cs,rfl,h2,h3,h4,h5⟩
 ·refine⟨⟨H.bx++[[.p (.int .i64 a),d']],H.tk⟩,by simp[gL,mK,show roomy 1 32=true from rfl],rfl,by simp,w.Xm _ (by simpa[D.aD,D.refs] using Xn) (by simp[D.bz,D.cJ,oQ]) _ _,?_,fun j cs _ h=>n9 h _⟩;refine .inr ⟨H.bx.length,[.p (.int .i64 a),d'],rfl,CE _ _ _,by simp,rfl,fun f a2 l2 hf=>?_⟩;obtain⟨rfl,h⟩:f=0∧(a2,l2)=(a,l):=by
   cases f with
   |zero=>simp at hf;exact⟨rfl,by rw[←hf.1,←hf.2]⟩
   |succ f=>simp at hf
  cases h;refine⟨rfl,d',rfl,hr.other fun i hi=>?_,fun i hi=>?_⟩
  ·exact cH (tJ i hi)
  ·rw[pV _ hN (by rw[hl i hi];simp)];exact hl i hi
 ·by_cases jI:R=[]
  ·cases aq jI
  ·have hRp:0<R.length:=xG.2 jI;have aq:cs≠[]:=fun h=>by rw[h] at h4;simp at h4;omega
   have rS:aU cs=false:=by
    match cs,h4 with
    |[],_=>rfl
    |[x],h4=>simp at h4;omega
    |x::y::r,_=>exact oY x y r
   have Mk:k<H.bx.length:=(az.1 h3).1;have mR:∀i,i≠k→∀es,H.bx[i]? =some es→(H.bx.set k []++[cs++[.p (.int .i64 a),d']])[i]? =some es:=fun i hi es h=>by
    rw[cH (by simp;exact(az.1 h).1),dH (Ne.symm hi),h]
   have hb:∀i es,(H.bx.set k []++[cs++[.p (.int .i64 a),d']])[i]? =some es→es=[]∨es=cs++[.p (.int .i64 a),d']∨H.bx[i]? =some es:=fun i es h=>by
    rcases Aa h with⟨_,h⟩ |⟨_,rfl⟩
    ·rcases Ab h with⟨_,rfl⟩ |⟨_,h⟩
     ·exact .inl rfl
     ·exact .inr (.inr h)
    ·exact .inr (.inl rfl)
   have BA:∀x∈D.aD (cs++[.p (.int .i64 a),d']),lab x≠.none:=fun x hx=>by
    rw[Jh] at hx;rcases cW.1 hx with h |h
    ·exact w.rf k cs h3 x h
    ·exact Xn x (by simpa[D.aD,D.refs] using h)
   refine⟨⟨H.bx.set k []++[cs++[.p (.int .i64 a),d']],H.tk⟩,?_,rfl,by simp,?_,?_,fun j es hj h=>?_⟩
   ·have h6:¬(R.length+1)*2≤cs.length:=by omega
    have h7:R.length*2≤cs.length:=by omega
    have h8:cs.take (R.length*2)=cs:=jC (by omega);simp[gL,h3,rS,aq,jx,h6,h7,h8,-aU]
   ·refine w.mono (fun i hi=>pV _ hN hi) (fun i es pH bp h=>mR i (fun e=>bp (by rw[e];exact h2)) es h) (fun i es hi x hx=>?_) (fun i es hi=>?_) fun j hj=>?_
    ·rcases hb i es hi with rfl |rfl |h
     ·cases hx
     ·exact ho x (BA x hx)
     ·exact ho x (w.rf i es h x hx)
    ·rcases hb i es hi with rfl |rfl |h
     ·rfl
     ·rw[Ji,w.tk k cs h3];simp[D.bz,D.cJ,oQ]
     ·exact w.tk i es h
    ·simp at hj;rw[xz lab _ (by omega)];exact w.fr j (by omega)
   ·refine .inr ⟨H.bx.length,cs++[.p (.int .i64 a),d'],by simp,CE _ _ _,by simp,by simp;omega,fun f a2 l2 hf=>?_⟩;rcases Aa hf with⟨fQ,hf⟩ |⟨rfl,h⟩
    ·obtain⟨e1,d2,e2,e3,e4⟩:=h5 f a2 l2 hf;refine⟨by rw[cH (by omega),e1],d2,by rw[cH (by omega),e2],e3.other fun i hi=>?_,fun i hi=>?_⟩
     ·have fC:=w.lt (x:=i) (by rw[e4 i hi];simp);have iW:k≠i:=fun e=>by have:=e4 i hi;rw[←e,h2] at this;cases this
      show(H.bx.set k []++_)[i]? =_;rw[cH (by simpa using fC),dH iW]
     ·rw[pV _ hN (by rw[e4 i hi];simp)];exact e4 i hi
    ·cases h;refine⟨by rw[eL (by omega)];simp[h4,Ag],d',by rw[eL (by omega)];simp[h4,Ag,vU],hr.other fun i hi=>?_,fun i hi=>?_⟩
     ·have iW:k≠i:=fun e=>by have:=hl i hi;rw[←e,h2] at this;cases this
      show(H.bx.set k []++_)[i]? =_;rw[cH (by simpa using tJ i hi),dH iW]
     ·rw[pV _ hN (by rw[hl i hi];simp)];exact hl i hi
   ·exact mR j (fun e=>hj (by rw[e];exact h2)) es h
theorem Wk.akz(w:Wk H lab c v m at_ al bs st lp S){d:D}{R:List (Int×List Int)}(hd:jl H lab S.length d R)(hSl:S.length<1000000)(oQ:d.cJ=[]):
    ∃sd H1,H.bx[m]? =some [at_,.p (.int .i64 st),sd,.p (.int .i64 lp)]∧((S=[]→sd= .p .aI)→gL 78 1 24 sd 1 [d] H=some (.aB H.bx.length 78 (S.length+1) 1,H1)∧H1.tk=H.tk∧H1.bx.length=H.bx.length+1∧H1.bx[m]? =some [at_,.p (.int .i64 st),sd,.p (.int .i64 lp)]∧
     Wk ⟨H1.bx.set m [at_,.p (.int .i64 st),.aB H.bx.length 78 (S.length+1) 1,.p (.int .i64 lp)],H1.tk⟩ (mD lab H.bx.length .states) c v m at_ al bs st lp (S++[R])∧∀j cs,lab j= .none→H.bx[j]? =some cs→(H1.bx.set m [at_,.p (.int .i64 st),.aB H.bx.length 78 (S.length+1) 1,.p (.int .i64 lp)])[j]? =some cs):=by
 have hN:=w.fr _ (aV _);have jx:roomy (S.length+1) 24=true:=by simp[roomy];omega
 have ho:∀x,lab x≠.none→mD lab H.bx.length .states x≠.none:=fun x hx=>by rw[pV _ hN hx];exact hx
 obtain⟨m1,sd,m2,m3⟩:=w.mod;have ke:m<H.bx.length:=w.lt (by rw[m1];simp);have key:∀(H1:Hp) (ds:List D),H1.tk=H.tk→H1.bx.length=H.bx.length+1→(∀(i:Nat) es,lab i≠.states→H.bx[i]? =some es→H1.bx[i]? =some es)→H1.bx[H.bx.length]? =some (ds++[d])→(∀(i:Nat) es,H1.bx[i]? =some es→es=[]∨es=ds++[d]∨H.bx[i]? =some es)→
     ds.length=S.length→(∀(s:Nat) R,S[s]? =some R→∃d,ds[s]? =some d∧jl H lab s d R)→(∀x∈D.aD ds,lab x≠.none)→D.bz ds=[]→
     H1.bx[m]? =some [at_,.p (.int .i64 st),sd,.p (.int .i64 lp)]∧Wk ⟨H1.bx.set m [at_,.p (.int .i64 st),.aB H.bx.length 78 (S.length+1) 1,.p (.int .i64 lp)],H1.tk⟩ (mD lab H.bx.length .states) c v m at_ al bs st lp (S++[R])∧∀j cs,lab j= .none→H.bx[j]? =some cs→(H1.bx.set m [at_,.p (.int .i64 st),.aB H.bx.length 78 (S.length+1) 1,.p (.int .i64 lp)])[j]? =some cs:=by
  intro H1 ds k1 k2 k3 k4 k5 k6 k7 k8 k9;have j1:=k3 m _ (by rw[m1];simp) m2;have akA:m<H1.bx.length:=(az.1 j1).1;have hx:∀(i:Nat) es,i≠m→lab i≠.states→H.bx[i]? =some es→(H1.bx.set m [at_,.p (.int .i64 st),.aB H.bx.length 78 (S.length+1) 1,.p (.int .i64 lp)])[i]? =some es:=fun i es h1 h2 h3=>by
   rw[dH (Ne.symm h1)];exact k3 i es h2 h3
  have oP:∀(i:Nat) es,lab i≠.none→lab i≠.states→lab i≠.model→H.bx[i]? =some es→(H1.bx.set m [at_,.p (.int .i64 st),.aB H.bx.length 78 (S.length+1) 1,.p (.int .i64 lp)])[i]? =some es:=fun i es _ h2 h3 h=>hx i es (fun e=>h3 (by rw[e];exact m1)) h2 h;have hC:∀{s:Nat} {d:D} {R:List (Int×List Int)},jl H lab s d R→jl ⟨H1.bx.set m [at_,.p (.int .i64 st),.aB H.bx.length 78 (S.length+1) 1,.p (.int .i64 lp)],H1.tk⟩ (mD lab H.bx.length .states) s d R:=fun {s d R} h=>
   h.z8 (fun i hi=>pV _ hN hi) fun i cs hi=>by
    refine oP i cs ?_ ?_ ?_
    ·rcases hi with h |⟨f,h⟩<;>rw[h]<;>simp
    ·rcases hi with h |⟨f,h⟩<;>rw[h]<;>simp
    ·rcases hi with h |⟨f,h⟩<;>rw[h]<;>simp
  have hc:∀(i:Nat) es,(H1.bx.set m [at_,.p (.int .i64 st),.aB H.bx.length 78 (S.length+1) 1,.p (.int .i64 lp)])[i]? =some es→es=[at_,.p (.int .i64 st),.aB H.bx.length 78 (S.length+1) 1,.p (.int .i64 lp)]∨es=[]∨es=ds++[d]∨H.bx[i]? =some es:=fun i es h=>by
   rcases Ab h with⟨_,rfl⟩ |⟨_,h⟩
   ·exact .inl rfl
   ·exact .inr (k5 i es h)
  refine⟨j1,⟨⟨?_,.aB H.bx.length 78 (S.length+1) 1,by simp[akA],.inr ⟨H.bx.length,ds++[d],by simp,CE _ _ _,?_,by simp[k6],fun s R' hR=>?_⟩⟩,?_,fun i hi=>?_,?_,?_,?_,?_,fun i es hi x iX=>?_,fun i es hi=>?_,fun j hj=>?_⟩,fun j cs hj h=>hx j cs (fun e=>by rw[e,m1] at hj;cases hj) (by rw[hj];simp) h⟩
  ·rw[pV _ hN (by rw[m1];simp)];exact m1
  ·show(H1.bx.set m _)[H.bx.length]? =_;rw[dH (by omega),k4]
  ·rcases Aa hR with⟨hl,hR⟩ |⟨rfl,rfl⟩
   ·obtain⟨d2,e1,e2⟩:=k7 s R' hR;exact⟨d2,n9 e1 _,hC e2⟩
   ·exact⟨d,by rw[←k6];simp,hC hd⟩
  ·refine w.ats.other fun i hi=>?_;have bp:=w.nv i hi;have hl:=w.lt (x:=i) (by rw[bp];simp);have hg:H.bx[i]? =some H.bx[i]:=aA hl;rw[hg];exact oP i _ (by rw[bp];simp) (by rw[bp];simp) (by rw[bp];simp) hg
  ·rw[pV _ hN (by rw[w.nv i hi];simp)];exact w.nv i hi
  ·exact oP c _ (by rw[w.cl];simp) (by rw[w.cl];simp) (by rw[w.cl];simp) w.cc
  ·rw[pV _ hN (by rw[w.cl];simp)];exact w.cl
  ·exact oP v _ (by rw[w.vl];simp) (by rw[w.vl];simp) (by rw[w.vl];simp) w.vv
  ·rw[pV _ hN (by rw[w.vl];simp)];exact w.vl
  ·rcases hc i es hi with rfl |rfl |rfl |h
   ·have :x∈at_.refs∨x=H.bx.length:=by simpa[D.aD,D.refs] using iX
    rcases this with h |rfl
    ·exact ho x (w.rf m _ m2 x (by simp[D.aD,h]))
    ·rw[CE];simp
   ·cases iX
   ·rw[Jh] at iX;rcases cW.1 iX with h |h
    ·exact ho x (k8 x h)
    ·exact ho x (hd.refs x (by simpa[D.aD] using h))
   ·exact ho x (w.rf i es h x iX)
  ·rcases hc i es hi with rfl |rfl |rfl |h
   ·have:=w.tk m _ m2;simp only[D.bz,xJ] at this;simp[D.bz,D.cJ,this.1]
   ·rfl
   ·rw[Ji,k9];simp[D.bz,oQ]
   ·exact w.tk i es h
  ·simp[k2] at hj;rw[xz lab _ (by omega)];exact w.fr j (by omega)
 rcases m3 with⟨rfl,rfl⟩ |⟨s0,ds,rfl,q2,q3,q4,q5⟩
 ·refine⟨_,⟨H.bx++[[d]],H.tk⟩,m2,fun _=>⟨by simp[gL,mK,show roomy 1 24=true from rfl],rfl,by simp,?_⟩⟩;exact key ⟨H.bx++[[d]],H.tk⟩ [] rfl (by simp) (fun i es _ h=>n9 h _) (by simp) (fun i es h=>by
   rcases Aa h with⟨_,h⟩ |⟨_,h⟩
   ·exact .inr (.inr h)
   ·exact .inr (.inl h)) rfl (fun s R h=>by simp at h) (fun x hx=>by cases hx) rfl
 ·refine⟨_,⟨H.bx.set s0 []++[ds++[d]],H.tk⟩,m2,fun hS=>?_⟩;have hS0:S≠[]:=fun h=>by cases hS h
  have hSp:0<S.length:=xG.2 hS0;have aq:ds≠[]:=fun h=>by rw[h] at q4;simp at q4;omega
  have rS:aU ds=false:=by
   have h0:S[0]? =some S[0]:=aA hSp;obtain⟨d0,e1,e2⟩:=q5 0 _ h0;refine JI e1 ?_;rcases e2 with⟨rfl,_⟩ |⟨k,cs,rfl,_⟩<;>rfl
  have h6:¬S.length+1≤ds.length:=by omega
  have h7:S.length≤ds.length:=by omega
  have h8:ds.take S.length=ds:=jC (by omega);refine⟨by simp[gL,q3,rS,aq,jx,h6,h7,h8,-aU],rfl,by simp,?_⟩;refine key ⟨H.bx.set s0 []++[ds++[d]],H.tk⟩ ds rfl (by simp) (fun i es h1 h=>?_) (by simp) (fun i es h=>?_) q4 q5 (w.rf s0 ds q3) (w.tk s0 ds q3)
  ·refine n9 ?_ _;rw[dH (fun e=>h1 (by rw[←e];exact q2)),h]
  ·rcases Aa h with⟨_,h⟩ |⟨_,h⟩
   ·rcases Ab h with⟨_,h⟩ |⟨_,h⟩
    ·exact .inl h
    ·exact .inr (.inr h)
   ·exact .inr (.inl h)
theorem Wk.akD(w:Wk H lab c v m at_ al bs st lp S){sd:D}(hm:H.bx[m]? =some [at_,.p (.int .i64 st),sd,.p (.int .i64 lp)])(OV:Int):Wk ⟨H.bx.set m [at_,.p (.int .i64 st),sd,.p (.int .i64 OV)],H.tk⟩ lab c v m at_ al bs st OV S:=by
 obtain⟨m1,pW,m2,m3⟩:=w.mod;have e:pW=sd:=by
  rw[hm] at m2;simp only[bI,FV,and_true,true_and] at m2;exact m2.symm
 subst e;have ke:m<H.bx.length:=w.lt (by rw[m1];simp);have hx:∀(i:Nat) es,lab i≠.model→H.bx[i]? =some es→(H.bx.set m [at_,.p (.int .i64 st),pW,.p (.int .i64 OV)])[i]? =some es:=fun i es h1 h2=>by
  rw[dH (fun e=>h1 (by rw[←e];exact m1)),h2]
 refine⟨⟨m1,pW,by simp[ke],?_⟩,?_,w.nv,hx c _ (by rw[w.cl];simp) w.cc,w.cl,hx v _ (by rw[w.vl];simp) w.vv,w.vl,fun i es hi x iX=>?_,fun i es hi=>?_,fun j hj=>w.fr j (by simpa using hj)⟩
 ·rcases m3 with m3 |⟨s0,ds,q1,q2,q3,q4,q5⟩
  ·exact .inl m3
  ·refine .inr ⟨s0,ds,q1,q2,hx _ _ (by rw[q2];simp) q3,q4,fun s R hR=>?_⟩;obtain⟨d,w1,w2⟩:=q5 s R hR;refine⟨d,w1,w2.z8 (fun _ _=>rfl) fun i cs hi=>hx i cs ?_⟩;rcases hi with h |⟨f,h⟩<;>rw[h]<;>simp
 ·refine w.ats.other fun i hi=>?_;have bp:=w.nv i hi;have hl:=w.lt (x:=i) (by rw[bp];simp);have hg:H.bx[i]? =some H.bx[i]:=aA hl;rw[hg];exact hx i _ (by rw[bp];simp) hg
 ·rcases Ab hi with⟨_,rfl⟩ |⟨_,h⟩
  ·exact w.rf m _ m2 x (by simpa[D.aD,D.refs] using iX)
  ·exact w.rf i es h x iX
 ·rcases Ab hi with⟨_,rfl⟩ |⟨_,h⟩
  ·have:=w.tk m _ m2;simpa[D.bz,D.cJ] using this
  ·exact w.tk i es h
end Go.Proofs.YtgplgbonlnodeaaGreatDoor
namespace Go.Proofs.YtgplgbonlnodeaaGreatDoor
open Go.Vs
set_option maxRecDepth 100000
def JN{α:Type}:List α→Sl α
 |[]=>.cV
 |x::r=>.of (x::r)
theorem JO{α:Type}(l:List α):els (JN l)=l:=by cases l<;>rfl
theorem Xo{α:Type}(sz:Nat)(f:α→PD)(l:List α):PD.slice sz (l.map f)=fD sz ((JN l).map f):=by cases l<;>rfl
theorem OW(H:Hp)(n:Nat):(.p .aI:D).aH 0 H n= .p .aI:=lQ 0 H n .aI
theorem akE(l:List Int):∀x∈l.map (PD.int .i64),pQ 1 x:=fun x hx=>by
 obtain⟨y,_,rfl⟩:=dz.1 hx;exact .inl ⟨rfl,rfl⟩
theorem gy.aH{H:Hp}{d:D}{l:List Int}(r:gy H d l):∃s:Sl Int,els s=l∧s≠.cV∧∀n,d.aH 0 H (n+2)= .p (af s):=by
 cases r with
 |aI=>exact⟨.nil,rfl,by simp,fun n=>OW H _⟩
 |emp=>exact⟨.of [],rfl,by simp,fun n=>rfl⟩
 |row i l hb aq=>
  cases l with
  |nil=>exact absurd rfl aq
  |cons x r=>
   refine⟨.of (x::r),rfl,by simp,fun n=>?_⟩;have h1:(cS (x::r)).map (D.aH 0 H (n+1))=((x::r).map (PD.int .i64)).map .p:=by
    unfold cS;rw[uf];exact sV fun p _=>lQ 0 H (n+1) p
   have h2:Vs.sub (cS (x::r)) 0 (0+(x::r).length*1)=cS (x::r):=by
    unfold Vs.sub;rw[tZ,jC (by rw[FG];omega)]
   have h4:=Cj (akE (x::r));have h5:((x::r).map (PD.int .i64)).flatMap PD.cells=(x::r).map (PD.int .i64):=ON _;rw[h5,cx] at h4;unfold D.aH;dsimp only;rw[if_pos (b9 _),hb];dsimp only;rw[if_pos ⟨Cx _,by rw[FG];omega,amW⟩,h2,h1,zP];dsimp only;rw[h4];rfl
def JP(xs:List Rl):List PD:=(xs.map Rl.p).flatMap PD.cells
theorem akF(x:Rl)(xs:List Rl):JP (x::xs)= .int .i64 x.ar::af x.tu::JP xs:=rfl
theorem Xp{H:Hp}:∀(R:List (Int×List Int)) (cs:List D),cs.length=R.length*2→
    (∀(f:Nat) (a:Int) (l:List Int),R[f]? =some (a,l)→cs[2*f]? =some (.p (.int .i64 a))∧∃d',cs[2*f+1]? =some d'∧gy H d' l)→
    ∃xs:List Rl,xs.map (fun r=>(r.ar,els r.tu))=R∧(∀r∈xs,r.tu≠.cV)∧∀n,cs.map (D.aH 0 H (n+2))=(JP xs).map .p
 |[],cs,h,_=>by
  have :cs=[]:=tY (by simpa using h);subst this;exact⟨[],rfl,by simp,fun n=>rfl⟩
 |(a,l)::R,cs,h,hc=>by
  obtain⟨c0,c1,cs,rfl⟩:∃c0 c1 bL,cs=c0::c1::bL:=by
   match cs,h with
   |[],h=>simp at h
   |[x],h=>simp at h;omega
   |x::y::r,_=>exact⟨x,y,r,rfl⟩
  obtain⟨e1,d',e2,e3⟩:=hc 0 a l rfl;simp at e1 e2;subst e1 e2;obtain⟨xs,h1,h2,h3⟩:=Xp (H:=H) R cs (by simp at h;omega) fun f a l hf=>by
   obtain⟨g1,d2,g2,g3⟩:=hc (f+1) a l (by simpa using hf);refine⟨?_,d2,?_,g3⟩
   ·rw[show 2*(f+1)=2*f+1+1 by omega] at g1;simpa using g1
   ·rw[show 2*(f+1)+1=2*f+1+1+1 by omega] at g2;simpa using g2
  obtain⟨s,s1,s2,s3⟩:=e3.aH;refine⟨⟨a,s⟩::xs,by simp[s1,h1],?_,fun n=>?_⟩
  ·intro r hr;rcases cN.1 hr with rfl |hr
   ·exact s2
   ·exact h2 r hr
  ·rw[dA,dA,s3,h3,akF,dA,dA];exact congrArg (· ::_) (lQ 0 H _ _)
theorem akG(xs:List Rl):∀x∈xs.map Rl.p,pQ 2 x:=fun x hx=>by
 obtain⟨y,_,rfl⟩:=dz.1 hx;exact .inr ⟨by simp,_,rfl,rfl⟩
theorem jl.aH{H:Hp}{lab:Nat→cL}{s:Nat}{d:D}{R:List (Int×List Int)}(r:jl H lab s d R):∃x:Sl Rl,(els x).map (fun r=>(r.ar,els r.tu))=R∧(∀r∈els x,r.tu≠.cV)∧∀n,d.aH 0 H (n+3)= .p (iN x):=by
 rcases r with⟨rfl,rfl⟩ |⟨k,cs,rfl,h2,h3,h4,h5⟩
 ·exact⟨.nil,rfl,by simp[els],fun n=>OW H _⟩
 ·obtain⟨xs,x1,x2,x3⟩:=Xp (H:=H) R cs h4 fun f a l hf=>by
   obtain⟨e1,d',e2,e3,_⟩:=h5 f a l hf;exact⟨e1,d',e2,e3⟩
  have hlen:xs.length=R.length:=by rw[←x1,cx]
  refine⟨JN xs,by rw[JO];exact x1,by rw[JO];exact x2,fun n=>?_⟩;have rS:aU cs=false:=by
   match cs,h4 with
   |[],_=>rfl
   |[x],h4=>simp at h4;omega
   |x::y::r,_=>exact oY x y r
  have hs:Vs.sub cs 0 (0+R.length*2)=cs:=by
   unfold Vs.sub;rw[tZ,jC (by omega)]
  have CF:=Cj (akG xs);rw[cx,hlen] at CF;unfold D.aH;dsimp only;rw[if_pos (b9 _),h3];dsimp only;rw[if_pos ⟨rS,by omega,by omega⟩,hs,x3 n,zP];dsimp only;unfold JP;rw[CF,Xo];rfl
theorem akH(xs:List (Sl Rl)):∀x∈xs.map iN,pQ 1 x:=fun x hx=>by
 obtain⟨y,_,rfl⟩:=dz.1 hx;exact .inl ⟨rfl,NS y⟩
def stM(x:Sl Rl):List (Int×List Int):=(els x).map fun r=>(r.ar,els r.tu)
theorem Xq{H:Hp}{lab:Nat→cL}:∀(S:fe) (ds:List D) (k:Nat),ds.length=S.length→(∀(s:Nat) R,S[s]? =some R→∃d,ds[s]? =some d∧jl H lab (k+s) d R)→
    ∃xs:List (Sl Rl),xs.map stM=S∧(∀x∈xs,∀r∈els x,r.tu≠.cV)∧∀n,ds.map (D.aH 0 H (n+3))=(xs.map iN).map .p
 |[],ds,_,h,_=>by
  have :ds=[]:=tY (by simpa using h);subst this;exact⟨[],rfl,by simp,fun n=>rfl⟩
 |R::S,[],_,h,_=>by simp at h
 |R::S,d::ds,k,h,hc=>by
  obtain⟨d0,e1,e2⟩:=hc 0 R rfl;simp at e1;subst e1;obtain⟨xs,h1,h2,h3⟩:=Xq (H:=H) (lab:=lab) S ds (k+1) (by simpa using h) fun s R hR=>by
   obtain⟨d2,g1,g2⟩:=hc (s+1) R (by simpa using hR);exact⟨d2,by simpa using g1,by rw[show k+1+s=k+(s+1) by omega];exact g2⟩
  obtain⟨x,x1,x2,x3⟩:=e2.aH;refine⟨x::xs,by rw[dA,h1];exact congrArg (· ::S) x1,?_,fun n=>?_⟩
  ·intro y hy;rcases cN.1 hy with rfl |hy
   ·exact x2
   ·exact h2 y hy
  ·rw[dA,x3,h3];rfl
theorem OP.aH{H:Hp}{lab:Nat→cL}{sd:D}{S:fe}(r:OP H lab sd S):∃x:Sl (Sl Rl),(els x).map stM=S∧(∀y∈els x,∀r∈els y,r.tu≠.cV)∧∀n,sd.aH 0 H (n+4)= .p (bK x):=by
 rcases r with⟨rfl,rfl⟩ |⟨k,ds,rfl,h2,h3,h4,h5⟩
 ·exact⟨.nil,rfl,by simp[els],fun n=>OW H _⟩
 ·obtain⟨xs,x1,x2,x3⟩:=Xq (H:=H) (lab:=lab) S ds 0 h4 fun s R hR=>by simpa using h5 s R hR
  have hlen:xs.length=S.length:=by rw[←x1,cx]
  refine⟨JN xs,by rw[JO];exact x1,by rw[JO];exact x2,fun n=>?_⟩;have rS:aU ds=false:=by
   cases ds with
   |nil=>rfl
   |cons d0 ds=>
    have hl:0<S.length:=by simp at h4;omega
    obtain⟨d,e1,e2⟩:=h5 0 S[0] (aA hl);refine JI e1 ?_;rcases e2 with⟨rfl,_⟩ |⟨k,cs,rfl,_⟩<;>rfl
  have hs:Vs.sub ds 0 (0+S.length*1)=ds:=by
   unfold Vs.sub;rw[tZ,jC (by omega)]
  have CF:=Cj (akH xs);have fQ:(xs.map iN).flatMap PD.cells=xs.map iN:=by
   clear x1 x2 x3 hlen CF
   induction xs with
   |nil=>rfl
   |cons x r ih=>rw[dA,ub,NS,ih];rfl
  rw[fQ,cx,hlen] at CF;unfold D.aH;dsimp only;rw[if_pos (b9 _),h3];dsimp only;rw[if_pos ⟨rS,by omega,amW⟩,hs,x3 n,zP];dsimp only;rw[CF,Xo];rfl
theorem Wk.ending{H:Hp}{lab:Nat→cL}{c v m:Nat}{at_:D}{al:List Int}{bs:Sl Bool}{st lp:Int}{S:fe}(w:Wk H lab c v m at_ al bs st lp S):
    ∃(sd:D) (ma:Sl Int) (ss:Sl (Sl Rl)),H.bx[m]? =some [at_,.p (.int .i64 st),sd,.p (.int .i64 lp)]∧els ma=al∧(els ss).map stM=S∧ma≠.cV∧(∀y∈els ss,∀r∈els y,r.tu≠.cV)∧
     fin true (.agg [at_,.p (.int .i64 st),sd,.p (.int .i64 lp)]) H (.p (.agg [af ma,.int .i64 st,bK ss,.int .i64 lp])):=by
 obtain⟨m1,sd,m2,m3⟩:=w.mod;obtain⟨ma,a1,a2,a3⟩:=w.ats.aH;obtain⟨ss,s1,s2,s3⟩:=m3.aH;refine⟨sd,ma,ss,m2,a1,s1,a2,s2,?_⟩;have h:(D.agg [at_,.p (.int .i64 st),sd,.p (.int .i64 lp)]).aH 0 H 8= .p (.agg [af ma,.int .i64 st,bK ss,.int .i64 lp]):=by
  unfold D.aH;simp only[dA,mF,a3 5,s3 3,lQ];rfl
 unfold fin;rw[if_pos rfl,h];exact⟨.p (.agg [af ma,.int .i64 st,bK ss,.int .i64 lp]),rfl,rfl⟩
theorem Xr(t:Sl Int)(ht:t≠.cV)(hl:(els t).length≤100000)(H:Hp):∃d' H1,av (call pg) 74 [.p (af t)] H=some (.val d',H1)∧gy H1 d' (els t)∧d'.cJ=[]∧d'.one=true∧d'.cells=[d']∧((H1=H∧dS d'=[]∧d'.refs=[])∨(H1=⟨H.bx++[cS (els t)],H.tk⟩∧d'= .aB H.bx.length 3 (els t).length 1)):=by
 cases t with
 |nil=>exact⟨_,H,ajZ H,.aI,rfl,rfl,rfl,.inl ⟨rfl,rfl,rfl⟩⟩
 |cV=>exact absurd rfl ht
 |of l=>
  cases l with
  |nil=>exact⟨_,H,aj0 H,.emp,rfl,rfl,rfl,.inl ⟨rfl,rfl,rfl⟩⟩
  |cons x r=>
   have h:=aj1 x r (by simp[els] at hl;omega) H;refine⟨_,_,h,?_,rfl,rfl,rfl,.inr ⟨rfl,rfl⟩⟩;refine .row _ (x::r) ?_ (by simp);show(H.bx++[_])[H.bx.length]? =_;simp[cS]
attribute [local irreducible] oT oR oS eW
theorem OX{H:Hp}(bV:H.Ok)(ht:∀(i:Nat) cs,H.bx[i]? =some cs→D.bz cs=[])(cw:H.tk=[]){n:Nat}(hn:n=H.bx.length)(o:Out)(ho:∀f g,o.ren f g=some o)(e:Env):
    dJ n 0 (o,⟨e,H⟩)=(o,⟨e.map fun y=>(y.1,(y.2.ren (below n) (below 0)).getD .dead),H⟩):=by
 subst hn;unfold dJ;rw[if_pos ⟨aV _,b9 _⟩];dsimp only;rw[ho,oo];have h1:aP (D.ba (below H.bx.length) (below 0)) H.bx=some H.bx:=by
  rw[Eg (g:=id) H.bx fun cs ak=>⟨fun r hr=>?_,?_⟩]
  ·congr 1
   exact(sV fun cs _=>wR cs).trans (amV _)
  ·obtain⟨i,hi⟩:=eC ak;have:=bV i cs hi r hr;simp[below,this]
  ·obtain⟨i,hi⟩:=eC ak;exact ht i cs hi
 rw[h1];simp only[cw,List.take_nil];obtain⟨bx,tk⟩:=H;simp only at cw;subst cw;rfl
structure Dc (H:Hp) (lab:Nat→cL) (m:Nat) (at_:D) (al:List Int) (bs:Sl Bool) (a:Sl Int) (aY lp:Int) (S:fe):Prop where
 w:Wk H lab 4 2 m at_ al bs aY lp S
 b1:H.bx[1]? =some [.p (af a),.p (.int .i64 aY)]
 l1:lab 1= .none
 b3:H.bx[3]? =some [.p .aI,.p (.int .i64 0),.p .aI,.p (.int .i64 0)]
 l3:lab 3= .none
 tk:H.tk=[]
def iG(bs:List Bool)(st:Int):Nat→Int
 | 0=>0
 |v+1=>if bs.getD v false=true then st-((v+1 :Nat):Int) else iG bs st v
theorem akI{H:Hp}{lab:Nat→cL}{m:Nat}{at_:D}{al:List Int}{bs:Sl Bool}{a:Sl Int}{aY:Int}{bb:Sl Bn}{C:List PD}(eg:(els bs).length<4611686018427387904)(cC:1≤aY∧aY≤4)(w:Dc H lab m at_ al bs a aY 0 []){v0:Nat}(D6:v0≤4)(hS:H.bx[m]? =some [at_,.p (.int .i64 aY),.p .aI,.p (.int .i64 0)]):
    post (fun o e H'=>o= .exit 0∧Dc H' lab m at_ al bs a aY (iG (els bs) aY v0) []∧H'.bx.length=H.bx.length∧H'.bx[m]? =some [at_,.p (.int .i64 aY),.p .aI,.p (.int .i64 (iG (els bs) aY v0))]∧e.get 2= .p (bG bb)∧e.get 5= .box 1 0∧e.get 8= .box 3 0∧e.get 9= .ro C 0∧e.get 10= .box 4 0∧e.get 11= .box m 0)
     (eu (call pg) pg.G [2,5,8,9,10,11,12] (bd a24 0) ⟨[(2,.p (bG bb)),(5,.box 1 0),(8,.box 3 0),(9,.ro C 0),(10,.box 4 0),(11,.box m 0),(12,.p (.int .i64 ((v0:Nat):Int)))],H⟩):=by
 refine eY (c:=call pg) (G:=pg.G) (σ:=Nat) (fun v=>[(2,.p (bG bb)),(5,.box 1 0),(8,.box 3 0),(9,.ro C 0),(10,.box 4 0),(11,.box m 0),(12,.p (.int .i64 ((v:Nat):Int)))]) (fun _=>H) (fun v=>v)
  (fun v=>v≤4∧iG (els bs) aY v=iG (els bs) aY v0) _ ?_ v0 ⟨D6,rfl⟩
 rintro v ⟨hv,eR⟩;have xA:=(az.1 w.b1).1;have ny:=(az.1 w.b3).1;have vK:=(az.1 w.w.cc).1;have ke:m<H.bx.length:=w.w.lt (by rw[w.w.mod.1];simp);have ai:=w.b1;have Nx:=w.w.cc;have cw:=w.tk;have e1:H.bx[1]=[.p (af a),.p (.int .i64 aY)]:=by have:=ai;rw[aA xA] at this;exact oi this
 have e4:H.bx[4]=[.fn 73 [] [.box 2 0]]:=by have:=Nx;rw[aA vK] at this;exact oi this
 have em:H.bx[m]=[at_,.p (.int .i64 aY),.p .aI,.p (.int .i64 0)]:=by have:=hS;rw[aA ke] at this;exact oi this
 cases v with
 |zero=>
  refine aX (Q:=fun o e H'=>o= .exit 0∧H'=H∧e.get 2= .p (bG bb)∧e.get 5= .box 1 0∧e.get 8= .box 3 0∧e.get 9= .ro C 0∧e.get 10= .box 4 0∧e.get 11= .box m 0) ?_ fun o e H' hh=>.inr ?_
  ·have CG:=fun e=>OX w.w.ok w.w.tk w.tk (n:=H.bx.length) rfl (.exit 0) (fun _ _=>rfl) e
   conv in bd a24 0=>reduce
   simp[-dJ,-aU,cw,CG,xA,ny,vK,ke]
  ·obtain⟨rfl,rfl,g2,g5,g8,g9,xB,tW⟩:=hh;rw[←eR];exact⟨by simp,rfl,w,rfl,hS,g2,g5,g8,g9,xB,tW⟩
 |succ v=>
  have hval:=OM (H:=H) bs v eg (by omega) w.w.vv;cases hb:(els bs).getD v false with
  |false=>
   rw[hb] at hval;refine aX (Q:=nx [2,5,8,9,10,11,12] [(2,.p (bG bb)),(5,.box 1 0),(8,.box 3 0),(9,.ro C 0),(10,.box 4 0),(11,.box m 0),(12,.p (.int .i64 ((v:Nat):Int)))] H) ?_ fun o e H' hh=>.inl ⟨v,⟨by omega,?_⟩,by omega,hh⟩
   ·have CG:=fun e=>OX w.w.ok w.w.tk w.tk (n:=H.bx.length) rfl .norm (fun _ _=>rfl) e;have c1:IntKind.i64.wrap (((v+1 :Nat):Int)-1)=((v:Nat):Int):=by rw[wrap64 (by omega) (by omega)];omega
    have c2:(0 :Int)<((v+1 :Nat):Int):=by omega
    generalize ((v+1 :Nat):Int)=v1 at *
    conv in bd a24 0=>reduce
    simp[-dJ,-aU,cw,CG,e4,xA,ny,vK,ke,zY,hval,c1,c2,Env.keep]
   ·rw[←eR];simp only[iG];rw[hb,if_neg (by simp)]
  |true=>
   rw[hb] at hval;have akJ:iG (els bs) aY (v+1)=aY-((v+1 :Nat):Int):=by
    simp only[iG];rw[hb,if_pos rfl]
   have iL:=w.w.akD hS (aY-((v+1 :Nat):Int));have c3:IntKind.i64.wrap (aY-((v+1 :Nat):Int))=aY-((v+1 :Nat):Int):=wrap64 (by omega) (by omega);refine aX (Q:=fun o e H'=>o= .exit 0∧H'=⟨H.bx.set m [at_,.p (.int .i64 aY),.p .aI,.p (.int .i64 (aY-((v+1 :Nat):Int)))],H.tk⟩∧e.get 2= .p (bG bb)∧e.get 5= .box 1 0∧e.get 8= .box 3 0∧e.get 9= .ro C 0∧e.get 10= .box 4 0∧e.get 11= .box m 0) ?_ fun o e H' hh=>.inr ?_
   ·have CG:=fun e=>OX iL.ok iL.tk w.tk (n:=H.bx.length) (by simp) (.exit 0) (fun _ _=>rfl) e;have c2:(0 :Int)<((v+1 :Nat):Int):=by omega
    generalize ((v+1 :Nat):Int)=v1 at *;rw[cw] at CG
    conv in bd a24 0=>reduce
    simp[-dJ,-aU,cw,CG,e1,e4,em,xA,ny,vK,ke,zY,oY,hval,c2,c3]
   ·obtain⟨rfl,rfl,g2,g5,g8,g9,xB,tW⟩:=hh;rw[←eR,akJ];refine⟨by simp,rfl,⟨iL,?_,w.l1,?_,w.l3,w.tk⟩,by simp,by simp[ke],g2,g5,g8,g9,xB,tW⟩
    ·have :m≠1:=fun e=>by have:=w.l1;rw[←e,w.w.mod.1] at this;cases this
     rw[dH this,ai]
    ·have :m≠3:=fun e=>by have:=w.l3;rw[←e,w.w.mod.1] at this;cases this
     rw[dH this,w.b3]
def jB(bb:List Bn):List (Int×List Int):=bb.map fun b=>(b.lo.ar,els b.lo.tu)
theorem OY:∀{cs:List D} {ps:List PD},gU cs=some ps→cs=ps.map .p
 |[],_,h=>by cases h;rfl
 | .p x::r,ps,h=>by
  simp only[gU] at h;obtain⟨y,hy,rfl⟩:=au.1 h;rw[OY hy];rfl
theorem JQ(cs:List D):(ec cs).cells=cs:=by
 unfold ec;cases h:gU cs with
 |none=>rfl
 |some ps=>exact(OY h).symm
theorem akK{H:Hp}{lab:Nat→cL}{m:Nat}{at_ d13:D}{al:List Int}{bs:Sl Bool}{a:Sl Int}{aY lp:Int}{S:fe}(w:Dc H lab m at_ al bs a aY lp S){R:List (Int×List Int)}(hd:jl H lab S.length d13 R)(aq:R=[]→d13= .p .aI)(hR:R.length<1000000)(b:Bn)(hb:b.lo.tu≠.cV)(fA:(els b.lo.tu).length≤100000)(xs:List PD)(_:H.bx.length<900000000):
    ∃d' H2 H4 JR,av (call pg) 74 [.p (af b.lo.tu)] ⟨H.bx++[xs.map .p],[]⟩=some (.val d',H2)∧H2.tk=[]∧(H2.bx.length=H.bx.length+1∨H2.bx.length=H.bx.length+2)∧
     d'.cells=[d']∧d'.one=true∧
     gL 85 2 32 d13 1 [.p (.int .i64 b.lo.ar),d'] ⟨H2.bx++[[.p (.int .i64 b.lo.ar),d']],[]⟩=some (.aB (H2.bx.length+1) 85 (R.length+1) 2,H4)∧H4.bx.length=H2.bx.length+2∧(∀cs,H.bx[m]? =some cs→H4.bx[m]? =some cs)∧
     Dc H4 JR m at_ al bs a aY lp S∧jl H4 JR S.length (.aB (H2.bx.length+1) 85 (R.length+1) 2) (R++[(b.lo.ar,els b.lo.tu)]):=by
 have w1:=w.w.snoc (xs.map .p) (by rw[oO];simp) (sC xs) [];have dL:jl ⟨H.bx++[xs.map .p],[]⟩ lab S.length d13 R:=hd.z8 (fun _ _=>rfl) fun i cs _ h=>n9 h _;have f1:∀(i:Nat) cs,H.bx[i]? =some cs→(H.bx++[xs.map D.p])[i]? =some cs:=fun i cs h=>n9 h _;generalize OZ:(⟨H.bx++[xs.map .p],[]⟩:Hp)=H1 at *;have ml:H1.bx.length=H.bx.length+1:=by rw[←OZ];simp
 have JS:H1.tk=[]:=by rw[←OZ]
 have Xs:∀(i:Nat) cs,H.bx[i]? =some cs→H1.bx[i]? =some cs:=fun i cs h=>by rw[←OZ];exact f1 i cs h
 obtain⟨d',H2,xC,hr,oQ,FM,A5,hH2⟩:=Xr b.lo.tu hb fA H1;obtain⟨lab2,w2,ja,g2,tJ,f2,n2,kI,vA⟩:∃lab2,Wk H2 lab2 4 2 m at_ al bs aY lp S∧jl H2 lab2 S.length d13 R∧(∀i∈dS d',lab2 i= .row S.length R.length)∧(∀x∈d'.refs,lab2 x≠.none)∧(∀(i:Nat) cs,H1.bx[i]? =some cs→H2.bx[i]? =some cs)∧(∀i,i<H1.bx.length→lab2 i=lab i)∧(H2.bx.length=H.bx.length+1∨H2.bx.length=H.bx.length+2)∧H2.tk=[]:=by
  rcases hH2 with⟨rfl,h1,h2⟩ |⟨rfl,rfl⟩
  ·exact⟨lab,w1,dL,by rw[h1];simp,by rw[h2];simp,fun _ _ h=>h,fun _ _=>rfl,.inl ml,JS⟩
  ·refine⟨mD lab H1.bx.length (.row S.length R.length),w1.Xm _ (by rw[JE];simp) (JF _) _ _,dL.z8 (fun i hi=>pV _ (w1.fr _ (aV _)) hi) fun i cs _ h=>n9 h _,?_,?_,fun i cs h=>n9 h _,fun i hi=>xz lab _ (by omega),.inr (by simp;omega),JS⟩
   ·intro i hi;have :i=H1.bx.length:=by simpa[dS] using hi
    rw[this,CE]
   ·intro i hi;have :i=H1.bx.length:=by simpa[D.refs] using hi
    rw[this,CE];simp
 have w3:=w2.snoc [.p (.int .i64 b.lo.ar),d'] (by simpa[D.aD,D.refs] using tJ) (by simp[D.bz,D.cJ,oQ]) [];have AW:jl ⟨H2.bx++[[.p (.int .i64 b.lo.ar),d']],[]⟩ lab2 S.length d13 R:=ja.z8 (fun _ _=>rfl) fun i cs _ h=>n9 h _;have NK:gy ⟨H2.bx++[[.p (.int .i64 b.lo.ar),d']],[]⟩ d' (els b.lo.tu):=hr.other fun i hi=>by
  have:=w2.lt (x:=i) (by rw[g2 i hi];simp);exact cH this
 obtain⟨H4,e1,e2,e3,e4,e5,e6⟩:=w3.aky (a:=b.lo.ar) AW NK g2 hR aq oQ;have akM:(⟨H2.bx++[[.p (.int .i64 b.lo.ar),d']],[]⟩:Hp).bx.length=H2.bx.length+1:=by simp
 rw[akM] at e1 e3 e4 e5;have xA:=(az.1 w.b1).1;have ny:=(az.1 w.b3).1;have ke:m<H.bx.length:=w.w.lt (by rw[w.w.mod.1];simp);have dY:∀(i:Nat) cs,lab i= .none→H.bx[i]? =some cs→H4.bx[i]? =some cs:=fun i cs hi h=>by
  have fC:=(az.1 h).1;exact e6 i cs (by rw[n2 i (by omega),hi];simp) (n9 (f2 i cs (Xs i cs h)) _)
 have CC:∀i,i<H.bx.length→mD lab2 (H2.bx.length+1) (.state S.length) i=lab i:=fun i hi=>by
  rw[xz _ _ (by omega),n2 i (by omega)]
 refine⟨d',H2,H4,_,xC,vA,kI,A5,FM,e1,by omega,fun cs ak=>?_,⟨e4,dY 1 _ w.l1 w.b1,by rw[CC 1 xA];exact w.l1,dY 3 _ w.l3 w.b3,by rw[CC 3 ny];exact w.l3,e2⟩,e5⟩;exact e6 m cs (by rw[n2 m (by omega),w.w.mod.1];simp) (n9 (f2 m cs (Xs m cs ak)) _)
theorem akN{H0:Hp}{kq:Nat→cL}{m s:Nat}{at_:D}{al:List Int}{bs:Sl Bool}{a:Sl Int}{aY lp:Int}{S:fe}{bb:Sl Bn}{C:List PD}(w0:Dc H0 kq m at_ al bs a aY lp S)(mW:∀b∈els bb,b.lo.tu≠.cV∧(els b.lo.tu).length≤100000)(fA:(els bb).length≤1000)(FI:H0.bx.length<800000000){mc:List D}(jF:H0.bx[m]? =some mc):
    post (fun o e H'=>o= .exit 4∧∃(d13:D) (lab:Nat→cL),Dc H' lab m at_ al bs a aY lp S∧jl H' lab S.length d13 (jB (els bb))∧d13.cJ=[]∧d13.cells=[d13]∧d13.one=true∧H'.bx[m]? =some mc∧H'.bx.length≤H0.bx.length+4*(els bb).length∧e.get 2= .p (bG bb)∧e.get 8= .box 3 0∧e.get 9= .ro C 0∧e.get 10= .box 4 0∧e.get 11= .box m 0∧e.get 13=d13∧e.get 43= .p (.int .i64 aY)∧e.get 44= .p (.int .i64 ((s:Nat):Int)))
     (eu (call pg) pg.G [2,8,9,10,11,13,43,44,46,47,48] (bd a24 2) ⟨[(2,.p (bG bb)),(8,.box 3 0),(9,.ro C 0),(10,.box 4 0),(11,.box m 0),(13,.p .aI),(43,.p (.int .i64 aY)),(44,.p (.int .i64 ((s:Nat):Int))),(46,.p (bG bb)),(47,.p (.int .i64 (((els bb).length:Nat):Int))),(48,.p (.int .i64 0))],H0⟩):=by
 refine eY (c:=call pg) (G:=pg.G) (σ:=Nat×Hp×D) (fun t=>[(2,.p (bG bb)),(8,.box 3 0),(9,.ro C 0),(10,.box 4 0),(11,.box m 0),(13,t.2.2),(43,.p (.int .i64 aY)),(44,.p (.int .i64 ((s:Nat):Int))),(46,.p (bG bb)),(47,.p (.int .i64 (((els bb).length:Nat):Int))),(48,.p (.int .i64 ((t.1:Nat):Int)))]) (fun t=>t.2.1) (fun t=>(els bb).length-t.1)
  (fun t=>t.1≤(els bb).length∧t.2.1.bx.length≤H0.bx.length+4*t.1∧t.2.1.bx[m]? =some mc∧(t.1=0→t.2.2= .p .aI)∧t.2.2.cJ=[]∧t.2.2.cells=[t.2.2]∧t.2.2.one=true∧∃lab,Dc t.2.1 lab m at_ al bs a aY lp S∧jl t.2.1 lab S.length t.2.2 ((jB (els bb)).take t.1)) _ ?_ (0,H0,.p .aI) ⟨b9 _,by simp,jF,fun _=>rfl,rfl,rfl,rfl,kq,w0,.inl ⟨rfl,rfl⟩⟩
 rintro⟨f,H,d13⟩ ⟨i1,i2,i3,i4,i5,i6,i7,lab,w,hd⟩;dsimp only at i1 i2 i3 i4 i5 i6 i7 w hd⊢;have dU:(jB (els bb)).length=(els bb).length:=by simp[jB]
 by_cases ah:f<(els bb).length
 ·have ey:=bO ah;have aM:=pM ah;have cw:=w.tk;have Fu:(jB (els bb))[f]? =some ((els bb)[f].lo.ar,els (els bb)[f].lo.tu):=by simp[jB,ah]
  have FL:((jB (els bb)).take f).length=f:=by simp[dU];omega
  have cC:=akK w hd (fun h=>i4 (by rw[h] at FL;simpa using FL.symm)) (by rw[FL];omega) (els bb)[f] (mW _ ey).1 (mW _ ey).2 [.int .i64 (els bb)[f].lo.ar,af (els bb)[f].lo.tu,.int .i64 (els bb)[f].up.ar,af (els bb)[f].up.tu] (by omega);rw[FL] at cC;obtain⟨d',H2,H4,JR,xC,t2,l2,dc,d1,ca,l4,kY,w4,hd4⟩:=cC;have akP:(jB (els bb)).take (f+1)=(jB (els bb)).take f++[((els bb)[f].lo.ar,els (els bb)[f].lo.tu)]:=by
   rw[PH,Fu];rfl
  have inc:=bw (k:=f) (by omega);have xD:((f:Nat):Int)<(((els bb).length:Nat):Int):=by omega
  refine aX (Q:=nx [2,8,9,10,11,13,43,44,46,47,48] [(2,.p (bG bb)),(8,.box 3 0),(9,.ro C 0),(10,.box 4 0),(11,.box m 0),(13,.aB (H2.bx.length+1) 85 (f+1) 2),(43,.p (.int .i64 aY)),(44,.p (.int .i64 ((s:Nat):Int))),(46,.p (bG bb)),(47,.p (.int .i64 (((els bb).length:Nat):Int))),(48,.p (.int .i64 ((f+1 :Nat):Int)))] H4) ?_ fun o e H' hh=>.inl ⟨(f+1,H4,.aB (H2.bx.length+1) 85 (f+1) 2),⟨ah,by dsimp only;omega,kY _ i3,fun h=>absurd h (by simp),rfl,rfl,rfl,JR,w4,by dsimp only;rw[akP];exact hd4⟩,by dsimp only;omega,hh⟩;generalize (els bb)[f]=b at *;simp only[dA,mF] at xC
  conv in bd a24 2=>reduce
  rcases l2 with l2 |l2
  ·simp[-dJ,-aU,-ec,-gU,cw,xD,aM,oY,JQ,xC,dc,d1,l2,t2,ow,ca];rw[if_pos ⟨by omega,.inl (by split<;>first |rfl |(split<;>rfl))⟩];simp[-dJ,-aU,-ec,-gU,inc]
  ·simp[-dJ,-aU,-ec,-gU,cw,xD,aM,oY,JQ,xC,dc,d1,l2,t2,ow,ca];rw[if_pos ⟨⟨by omega,fun h=>by omega⟩,.inl (by split<;>first |rfl |(split<;>rfl))⟩];simp[-dJ,-aU,-ec,-gU,inc]
 ·have hf:f=(els bb).length:=by omega
  have xD:¬((f:Nat):Int)<(((els bb).length:Nat):Int):=by omega
  refine aX (Q:=fun o e H'=>o= .exit 4∧H'=H∧e.get 2= .p (bG bb)∧e.get 8= .box 3 0∧e.get 9= .ro C 0∧e.get 10= .box 4 0∧e.get 11= .box m 0∧e.get 13=d13∧e.get 43= .p (.int .i64 aY)∧e.get 44= .p (.int .i64 ((s:Nat):Int))) ?_ fun o e H' hh=>.inr ?_
  ·generalize ((f:Nat):Int)=f1 at *
   conv in bd a24 2=>reduce
   simp[-dJ,-aU,xD]
  ·obtain⟨rfl,rfl,hg⟩:=hh;refine⟨by simp,rfl,d13,lab,w,?_,i5,i6,i7,i3,by omega,hg⟩;rw[hf,←dU,oo] at hd;exact hd
theorem pnc:PD.aI.cells=[.aI]:=rfl
theorem pno:PD.aI.one=true:=rfl
theorem akR{H0:Hp}{kq:Nat→cL}{m:Nat}{at_:D}{al:List Int}{bs:Sl Bool}{a:Sl Int}{aY lp:Int}{bb:Sl Bn}{C:List PD}(cC:1≤aY∧aY≤4)(w0:Dc H0 kq m at_ al bs a aY lp [])(mW:∀b∈els bb,b.lo.tu≠.cV∧(els b.lo.tu).length≤100000)(fA:(els bb).length≤1000)(FI:H0.bx.length<700000000)(jF:H0.bx[m]? =some [at_,.p (.int .i64 aY),.p .aI,.p (.int .i64 lp)])(_:at_.one=true):
    post (fun o e H'=>o= .exit 2∧(∃lab,Dc H' lab m at_ al bs a aY lp (eB aY.toNat (jB (els bb))))∧H'.bx.length≤H0.bx.length+20000∧e.get 8= .box 3 0∧e.get 9= .ro C 0∧e.get 10= .box 4 0∧e.get 11= .box m 0)
     (eu (call pg) pg.G [2,8,9,10,11,43,44] (bd a24 1) ⟨[(2,.p (bG bb)),(8,.box 3 0),(9,.ro C 0),(10,.box 4 0),(11,.box m 0),(43,.p (.int .i64 aY)),(44,.p (.int .i64 0))],H0⟩):=by
 refine eY (c:=call pg) (G:=pg.G) (σ:=Nat×Hp) (fun t=>[(2,.p (bG bb)),(8,.box 3 0),(9,.ro C 0),(10,.box 4 0),(11,.box m 0),(43,.p (.int .i64 aY)),(44,.p (.int .i64 ((t.1:Nat):Int)))]) (fun t=>t.2) (fun t=>aY.toNat-t.1)
  (fun t=>t.1≤aY.toNat∧t.2.bx.length≤H0.bx.length+5000*t.1∧∃lab sd,Dc t.2 lab m at_ al bs a aY lp (eB t.1 (jB (els bb)))∧t.2.bx[m]? =some [at_,.p (.int .i64 aY),sd,.p (.int .i64 lp)]∧(t.1=0→sd= .p .aI)) _ ?_ (0,H0) ⟨b9 _,by simp,kq,_,w0,jF,fun _=>rfl⟩
 rintro⟨s,H⟩ ⟨i1,i2,lab,sd,w,i3,i4⟩;dsimp only at i1 i2 w i3 i4⊢;by_cases ah:s<aY.toNat
 ·have xD:((s:Nat):Int)<aY:=by omega
  obtain⟨o,e,H1,hx,rfl,d13,O0,w1,dL,dt,dc,d1,j1,ml,g2,g8,g9,xB,tW,g13,g43,g44⟩:=bJ (akN (s:=s) (C:=C) w mW fA (by omega) i3);have w2:=w1.w.snoc [d13] (by simpa[D.aD] using dL.refs) (by simp[D.bz,dt]) [];have ja:jl ⟨H1.bx++[[d13]],[]⟩ O0 (eB s (jB (els bb))).length d13 (jB (els bb)):=dL.z8 (fun _ _=>rfl) fun i cs _ h=>n9 h _;have JS:=w1.tk;have kL:(H1.bx++[[d13]])[m]? =some [at_,.p (.int .i64 aY),sd,.p (.int .i64 lp)]:=n9 j1 _;obtain⟨pW,H6,a1,a2⟩:=w2.akz ja (by simp;omega) dt;have O1:pW=sd:=by
   have:=a1.symm.trans kL;simpa using this
  subst O1;obtain⟨a3,a4,a5,a6,a7,a8⟩:=a2 (fun h=>i4 (by
   have:=congrArg oq h;simpa using this))
  have wY:(⟨H1.bx++[[d13]],[]⟩:Hp).bx.length=H1.bx.length+1:=by simp
  rw[wY] at a3 a5 a7 a8;rw[CQ] at a3 a7 a8;have gY:eB (s+1) (jB (els bb))=eB s (jB (els bb))++[jB (els bb)]:=List.replicate_succ';have hdm:aU [d13]=false:=by rcases dL with⟨rfl,_⟩ |⟨k,cs,rfl,_⟩<;>rfl
  have ke:m<H1.bx.length:=w1.w.lt (by rw[w1.w.mod.1];simp);have xA:=(az.1 w1.b1).1;have ny:=(az.1 w1.b3).1;have inc:=bw (k:=s) (by omega);have Xt:Dc ⟨H6.bx.set m [at_,.p (.int .i64 aY),.aB (H1.bx.length+1) 78 (s+1) 1,.p (.int .i64 lp)],H6.tk⟩ (mD O0 (H1.bx.length+1) .states) m at_ al bs a aY lp (eB (s+1) (jB (els bb))):=by
   rw[gY];refine⟨a7,a8 1 _ w1.l1 (n9 w1.b1 _),?_,a8 3 _ w1.l3 (n9 w1.b3 _),?_,a4⟩
   ·rw[xz _ _ (by omega)];exact w1.l1
   ·rw[xz _ _ (by omega)];exact w1.l3
  refine aX (Q:=nx [2,8,9,10,11,43,44] [(2,.p (bG bb)),(8,.box 3 0),(9,.ro C 0),(10,.box 4 0),(11,.box m 0),(43,.p (.int .i64 aY)),(44,.p (.int .i64 ((s+1 :Nat):Int)))] ⟨H6.bx.set m [at_,.p (.int .i64 aY),.aB (H1.bx.length+1) 78 (s+1) 1,.p (.int .i64 lp)],[]⟩) ?_ fun o e H' hh=>.inl ⟨(s+1,⟨H6.bx.set m [at_,.p (.int .i64 aY),.aB (H1.bx.length+1) 78 (s+1) 1,.p (.int .i64 lp)],[]⟩),⟨ah,by dsimp only;rw[List.length_set];omega,mD O0 (H1.bx.length+1) .states,.aB (H1.bx.length+1) 78 (s+1) 1,?_,?_,fun h=>absurd h (by simp)⟩,by dsimp only;omega,hh⟩
  ·have hlen:=gp bb;have iB:aE [at_,.p (.int .i64 aY),pW,.p (.int .i64 lp)] 2 [.aB (H1.bx.length+1) 78 (s+1) 1]=[at_,.p (.int .i64 aY),.aB (H1.bx.length+1) 78 (s+1) 1,.p (.int .i64 lp)]:=rfl;generalize ((s+1 :Nat):Int)=s1 at *;have aC:=rf (bd a24 2)
   conv at aC=>rhs;reduce
   have ai:=rf (bd a24 1)
   conv at ai=>rhs;reduce
   rw[←aC] at ai;rw[ai];clear ai aC;simp[-dJ,-aU,-aE,xD,hlen,hx,g2,g8,g9,xB,tW,g13,g43,g44,JS,oY,j1,ow,dc,d1,a3,a6,iB,inc,pnc,Xh,Wg,hdm];exact a4
  ·rw[a4] at Xt;exact Xt
  ·dsimp only;rw[j9 (by omega)]
 ·have hs:s=aY.toNat:=by omega
  have xD:¬((s:Nat):Int)<aY:=by omega
  refine aX (Q:=fun o e H'=>o= .exit 2∧H'=H∧e.get 8= .box 3 0∧e.get 9= .ro C 0∧e.get 10= .box 4 0∧e.get 11= .box m 0) ?_ fun o e H' hh=>.inr ?_
  ·generalize ((s:Nat):Int)=s1 at *;have aC:=rf (bd a24 2)
   conv at aC=>rhs;reduce
   have ai:=rf (bd a24 1)
   conv at ai=>rhs;reduce
   rw[←aC] at ai;rw[ai];clear ai aC;simp[-dJ,-aU,xD]
  ·obtain⟨rfl,rfl,hg⟩:=hh;rw[hs] at w;exact⟨by simp,rfl,⟨lab,w⟩,by omega,hg⟩
theorem Xu:∀ps:List PD,gU (ps.map .p)=some ps
 |[]=>rfl
 |p::ps=>by simp[gU,Xu ps]
theorem akW(cs:List D)(H:Hp)(n:Nat):(ec cs).aH 0 H (n+1)=(D.agg cs).aH 0 H (n+1):=by
 cases h:gU cs with
 |none=>unfold ec;rw[h]
 |some ps=>
  have e:=OY h;have h1:(D.agg cs).aH 0 H (n+1)=ec (cs.map (D.aH 0 H n)):=by
   conv=>lhs;unfold D.aH
  have h2:cs.map (D.aH 0 H n)=ps.map .p:=by
   rw[e,uf];exact sV fun p _=>lQ 0 H n p
  rw[h1,h2];unfold ec;rw[h,Xu];exact lQ 0 H (n+1) _
theorem Wk.akX{H:Hp}{lab:Nat→cL}{c v m:Nat}{at_:D}{al:List Int}{bs:Sl Bool}{st lp:Int}{S:fe}(w:Wk H lab c v m at_ al bs st lp S){j:Nat}(hj:lab j= .none)(cs:List D)(hr:∀x∈D.aD cs,lab x≠.none)(ht:D.bz cs=[])(tk:List Nat):
    Wk ⟨H.bx.set j cs,tk⟩ lab c v m at_ al bs st lp S:=by
 refine w.mono (fun _ _=>rfl) (fun i es hi _ h=>?_) (fun i es hi x hx=>?_) (fun i es hi=>?_) fun i hi=>w.fr i (by simpa using hi)
 ·rw[dH (fun e=>hi (by rw[←e];exact hj)),h]
 ·rcases Ab hi with⟨_,rfl⟩ |⟨_,h⟩
  ·exact hr x hx
  ·exact w.rf i es h x hx
 ·rcases Ab hi with⟨_,rfl⟩ |⟨_,h⟩
  ·exact ht
  ·exact w.tk i es h
def iO(fi:List Fi)(bb:List Bn)(st:Int)(bs:List Bool):fe:=
 (dX fi bb st).foldl (lu bs (fi.map Fi.va) st) (eB st.toNat (jB bb))
def Xv(fi:List Fi)(bb:List Bn)(st:Int)(bs:List Bool):Prop:=
 ∀(j:Nat) e,(dX fi bb st)[j]? =some e→Xk bs (fi.map Fi.va) st (((dX fi bb st).take j).foldl (lu bs (fi.map Fi.va) st) (eB st.toNat (jB bb))) e
theorem akY{a:Sl Int}{bs:Sl Bool}{st:Int}{so fp f3 f4:PD}{d:D}(hr:gy ⟨[],[]⟩ d (els a))(hd:dS d=[])(ja:d.refs=[])(oQ:d.cJ=[]):
    ∃lab,Dc ⟨[[.p so,.p fp,.p f3,.p f4],[.p (af a),.p (.int .i64 st)],[.p (dy bs)],[.p .aI,.p (.int .i64 0),.p .aI,.p (.int .i64 0)],[.fn 73 [] [.box 2 0]],[d,.p (.int .i64 st),.p .aI,.p (.int .i64 0)]],[]⟩ lab 5 d (els a) bs a st 0 []:=by
 obtain⟨lab,l4,l2,l5,lo⟩:∃lab:Nat→cL,lab 4= .pU 0∧lab 2= .pU 1∧lab 5= .model∧∀j,j≠4→j≠2→j≠5→lab j= .none:=
  ⟨fun j=>if j=4 then .pU 0 else if j=2 then .pU 1 else if j=5 then .model else .none,rfl,rfl,rfl,fun j h1 h2 h3=>by simp[h1,h2,h3]⟩
 refine⟨lab,⟨⟨l5,.p .aI,rfl,.inl ⟨rfl,rfl⟩⟩,hr.other (by rw[hd];simp),by rw[hd];simp,rfl,l4,rfl,l2,?_,?_,fun j hj=>lo j ?_ ?_ ?_⟩,rfl,lo 1 (by simp) (by simp) (by simp),rfl,lo 3 (by simp) (by simp) (by simp),rfl⟩
 ·intro i cs hi x hx;have hm:=bS hi;simp only[cN,mG,or_false] at hm;rcases hm with rfl |rfl |rfl |rfl |rfl |rfl
  ·simp[D.aD,D.refs] at hx
  ·simp[D.aD,D.refs] at hx
  ·simp[D.aD,D.refs] at hx
  ·simp[D.aD,D.refs] at hx
  ·have :x=2:=by simpa[D.aD,D.refs] using hx
   rw[this,l2];simp
  ·simp[D.aD,D.refs,ja] at hx
 ·intro i cs hi;have hm:=bS hi;simp only[cN,mG,or_false] at hm;rcases hm with rfl |rfl |rfl |rfl |rfl |rfl<;>simp[D.bz,D.cJ,oQ]
 all_goals simp at hj;omega
theorem akZ{a:Sl Int}{bs:Sl Bool}{st:Int}{so fp f3 f4:PD}(ha:els a≠[]):
    ∃lab,Dc ⟨[[.p so,.p fp,.p f3,.p f4],[.p (af a),.p (.int .i64 st)],[.p (dy bs)],[.p .aI,.p (.int .i64 0),.p .aI,.p (.int .i64 0)],[.fn 73 [] [.box 2 0]],cS (els a),[.aB 5 3 (els a).length 1,.p (.int .i64 st),.p .aI,.p (.int .i64 0)]],[]⟩ lab 6 (.aB 5 3 (els a).length 1) (els a) bs a st 0 []:=by
 obtain⟨lab,l4,l2,l6,l5,lo⟩:∃lab:Nat→cL,lab 4= .pU 0∧lab 2= .pU 1∧lab 6= .model∧lab 5= .pU 2∧∀j,j≠4→j≠2→j≠6→j≠5→lab j= .none:=
  ⟨fun j=>if j=4 then .pU 0 else if j=2 then .pU 1 else if j=6 then .model else if j=5 then .pU 2 else .none,rfl,rfl,rfl,rfl,fun j h1 h2 h3 h4=>by simp[h1,h2,h3,h4]⟩
 refine⟨lab,⟨⟨l6,.p .aI,rfl,.inl ⟨rfl,rfl⟩⟩,.row 5 _ rfl ha,fun i hi=>?_,rfl,l4,rfl,l2,?_,?_,fun j hj=>lo j ?_ ?_ ?_ ?_⟩,rfl,lo 1 (by simp) (by simp) (by simp) (by simp),rfl,lo 3 (by simp) (by simp) (by simp) (by simp),rfl⟩
 ·have :i=5:=by simpa[dS] using hi
  rw[this];exact l5
 ·intro i cs hi x hx;have hm:=bS hi;simp only[cN,mG,or_false] at hm;rcases hm with rfl |rfl |rfl |rfl |rfl |rfl |rfl
  ·simp[D.aD,D.refs] at hx
  ·simp[D.aD,D.refs] at hx
  ·simp[D.aD,D.refs] at hx
  ·simp[D.aD,D.refs] at hx
  ·have :x=2:=by simpa[D.aD,D.refs] using hx
   rw[this,l2];simp
  ·rw[JE] at hx;cases hx
  ·have :x=5:=by simpa[D.aD,D.refs] using hx
   rw[this,l5];simp
 ·intro i cs hi;have hm:=bS hi;simp only[cN,mG,or_false] at hm;rcases hm with rfl |rfl |rfl |rfl |rfl |rfl |rfl
  all_goals first |exact JF _ |simp[D.bz,D.cJ]
 all_goals simp at hj;omega
theorem Xw(a b c d:PD):ec [.p a,.p b,.p c,.p d]= .p (.agg [a,b,c,d]):=rfl
theorem Xx(a b:PD):ec [.p a,.p b]= .p (.agg [a,b]):=rfl
theorem Xy:PD.ot.one=true:=rfl
theorem Xz(x:PD):aU [.p x]=false:=rfl
theorem gy.ne{H:Hp}{d:D}{l:List Int}(r:gy H d l){i e n sz:Nat}(h:d= .aB i e n sz):l≠[]:=by
 cases r with
 |aI=>cases h
 |emp=>cases h
 |row i l hb aq=>exact aq
variable {so f3 f4 : PD} {fi : Sl Fi} {a : Sl Int} {bb : Sl Bn} {st : Int} {bs : Sl Bool}
theorem ak0(o1:so.one=true)(o3:f3.one=true)(o4:f4.one=true)(cC:1≤st∧st≤4)(ha:a≠.cV)(ij:(els a).length≤100000)
    (fA:(els bb).length=(els fi).length) (hl:(els bb).length≤1000) (hu:∀b∈els bb,(els b.up.tu).length≤900∧(els b.lo.tu).length≤900) (hs:∀b∈els bb,dw (els b.lo.tu)) (sS:∀b∈els bb,b.lo.tu≠.cV)
    (eg:(els bs).length<4611686018427387904) (bV:Xv (els fi) (els bb) st (els bs)):
    ∃r:Sl Int×Sl (Sl Rl),(∀H,av (call pg) 24 [.p (.agg [so,bZ fi,f3,f4]),.p (.agg [af a,.int .i64 st]),.p (bG bb),.p (dy bs)] H=some (.val (.p (.agg [af r.1,.int .i64 st,bK r.2,.int .i64 (iG (els bs) st (aW st))])),H))∧
     (els r.1=els a∧(els r.2).map stM=iO (els fi) (els bb) st (els bs)∧r.1≠.cV∧∀y∈els r.2,∀r∈els y,r.tu≠.cV):=by
 have Fy:=Oq (fi:=fi) (a:=a) (st:=st) o1 o3 o4 hl hu hs;have XA:=Wm (f3:=f3) (f4:=f4) (fi:=fi) (a:=a) (st:=st) (bs:=bb) o1 (mr (cB 0 (els bb)));have By:aW st≤4:=by unfold aW;split<;>omega
 have ak1:=fun {c v m at_ al lp H kq}=>@aku c v m at_ al bs st lp st (eB st.toNat (jB (els bb))) so f3 f4 fi a bb eg cC fA hl (fun b hb=>(hu b hb).1) bV H kq;generalize iE so f3 f4 fi a st bb (mr (cB 0 (els bb)))=C at *;obtain⟨d',H2,xC,hr,oQ,FM,A5,tA⟩:=Xr a ha ij ⟨[[.p so,.p (bZ fi),.p f3,.p f4],[.p (af a),.p (.int .i64 st)],[.p (dy bs)],[.p .aI,.p (.int .i64 0),.p .aI,.p (.int .i64 0)],[.fn 73 [] [.box 2 0]]],[]⟩;obtain⟨XB,w7,vA,kI,zy⟩:∃XB,Dc ⟨H2.bx++[[d',.p (.int .i64 st),.p .aI,.p (.int .i64 0)]],[]⟩ XB H2.bx.length d' (els a) bs a st 0 []∧H2.tk=[]∧(H2.bx.length=5∨H2.bx.length=6)∧H2.bx[1]? =some [.p (af a),.p (.int .i64 st)]:=by
  rcases tA with⟨rfl,h1,h2⟩ |⟨rfl,rfl⟩
  ·obtain⟨lab,w⟩:=akY (bs:=bs) (st:=st) (so:=so) (fp:=bZ fi) (f3:=f3) (f4:=f4) (hr.other (H':=⟨[],[]⟩) (by rw[h1];simp)) h1 h2 oQ;exact⟨lab,w,rfl,.inl rfl,rfl⟩
  ·have aq:els a≠[]:=hr.ne rfl;obtain⟨lab,w⟩:=akZ (bs:=bs) (st:=st) (so:=so) (fp:=bZ fi) (f3:=f3) (f4:=f4) aq;exact⟨lab,w,rfl,.inr rfl,rfl⟩
 have ak2:1<H2.bx.length:=(az.1 zy).1;have XC:H2.bx[1]=[.p (af a),.p (.int .i64 st)]:=by have:=zy;rw[aA ak2] at this;exact oi this
 have I2:(⟨H2.bx++[[d',.p (.int .i64 st),.p .aI,.p (.int .i64 0)]],[]⟩:Hp).bx[H2.bx.length]? =some [d',.p (.int .i64 st),.p .aI,.p (.int .i64 0)]:=by simp
 obtain⟨o8,e8,H8,JT,rfl,w8,XD,hm8,g2,g5,g8,g9,xB,tW⟩:=bJ (akI (bb:=bb) (C:=C) eg cC w7 By I2);have ak4:H8.bx.length<700000000:=by rw[XD];simp;omega
 obtain⟨o9,e9,H9,JU,rfl,⟨ak5,w9⟩,XE,k8,k9,XF,JV⟩:=bJ (akR (C:=C) cC w8 (fun b hb=>⟨sS b hb,by have:=hu b hb;omega⟩) hl ak4 hm8 FM);have hm9:ak5 H2.bx.length= .model:=w9.w.mod.1;obtain⟨FN,XG,JW,CH,t10,q1,q2,q3,q4⟩:=w9.w.call (f:=59) (args:=[.ro C 0,.fn 76 [] [.box 4 0,.box H2.bx.length 0]]) (K:=100000000) (S':=iO (els fi) (els bb) st (els bs)) rfl (by
  intro x hx;have :x=4∨x=H2.bx.length:=by simpa[D.aD,D.refs] using hx
  rcases this with rfl |rfl
  ·rw[w9.w.cl];simp
  ·rw[hm9];simp) (by simp[D.aD,D.refs]) (by simp[D.aD,D.refs]) (fun g H' dG at' w' _ hlen ak7=>by
   obtain⟨Hs,j6,p1,p2,p3,p4,p5⟩:=ak1 w' ak7 (by rw[XD] at XE;simp at XE;omega);exact⟨Hs,j6,p1,p2,p3,p4,p5⟩)
 have xA:=(az.1 w9.b1).1;have ny:=(az.1 w9.b3).1;have vK:=(az.1 w9.w.cc).1;have O2:=(q4 3 ny w9.l3).trans w9.b3;have ak8:XG 3= .none:=(q3 3 ny).trans w9.l3;have XH:FN.tk=[]:=t10.trans w9.tk;have aqm:=CH.mod.1;obtain⟨sd,ma,ss,e1,e2,e3,e4,e5,-⟩:=CH.ending;have Lb:∀x∈D.aD [d',.p (.int .i64 st),sd,.p (.int .i64 (iG (els bs) st (aW st)))],XG x≠.none:=CH.rf _ _ e1;have w11:=CH.akX ak8 [d',.p (.int .i64 st),sd,.p (.int .i64 (iG (els bs) st (aW st)))] Lb (CH.tk _ _ e1) [];obtain⟨pW,ma',ss',e1',Eb,VL,e4',e5',dY⟩:=w11.ending;have h3m:(3 :Nat)≠H2.bx.length:=by omega
 have O1:pW=sd:=by
  have h:=e1';dsimp only at h;rw[dH h3m,e1] at h;simpa using h.symm
 subst O1;have XI:pW.one=true:=by
  obtain⟨_,sd2,m2,hs⟩:=CH.mod;have :sd2=pW:=by
   rw[e1] at m2;simpa using m2.symm
  subst this;rcases hs with⟨rfl,_⟩ |⟨k,ds,rfl,_⟩<;>rfl
 have XJ:=w8.b1;have ht8:=w8.tk;have ht9:=w9.tk;have aqp:∀x y z u:D,aE [.p .aI,.p (.int .i64 0),.p .aI,.p (.int .i64 0)] 0 [x,y,z,u]=[x,y,z,u]:=fun _ _ _ _=>rfl;have yb:∃r:Sl Int×Sl (Sl Rl),(els r.1=els a∧(els r.2).map stM=iO (els fi) (els bb) st (els bs)∧r.1≠.cV∧∀y∈els r.2,∀r∈els y,r.tu≠.cV)∧fin true (ec [d',.p (.int .i64 st),pW,.p (.int .i64 (iG (els bs) st (aW st)))]) ⟨FN.bx.set 3 [d',.p (.int .i64 st),pW,.p (.int .i64 (iG (els bs) st (aW st)))],[]⟩ (.p (.agg [af r.1,.int .i64 st,bK r.2,.int .i64 (iG (els bs) st (aW st))])):=by
  refine⟨(ma',ss'),⟨Eb,VL,e4',e5'⟩,?_⟩;unfold fin at dY⊢;rw[akW];exact dY
 generalize aW st=v0 at *;generalize iG (els bs) st v0=lp at *;generalize iO (els fi) (els bb) st (els bs)=M at *;have alh:3<FN.bx.length:=(az.1 O2).1;have aqq:H2.bx.length<FN.bx.length:=(az.1 e1).1;have aC:=rf (bd a24 2)
 conv at aC=>rhs;reduce
 have ai:=rf (bd a24 1)
 conv at ai=>rhs;reduce
 rw[←aC] at ai;have ae:=rf (bd a24 0)
 conv at ae=>rhs;reduce
 have hf:=rf a24
 conv at hf=>rhs;reduce
 rw[←aC] at hf;rw[←ai] at hf;rw[←ae] at hf;refine zE (y:=fun r:Sl Int×Sl (Sl Rl)=>.p (.agg [af r.1,.int .i64 st,bK r.2,.int .i64 lp])) (R:=fun r=>els r.1=els a∧(els r.2).map stM=M∧r.1≠.cV∧∀y∈els r.2,∀r∈els y,r.tu≠.cV) (f:=24) (aa:=[_,_,_,_]) hf rfl rfl rfl ?_;refine aX (Q:=fun o e H=>o= .ret∧e.get 8= .box 3 0∧H=⟨FN.bx.set 3 [d',.p (.int .i64 st),pW,.p (.int .i64 lp)],[]⟩) ?_ fun o e H hh=>?_
 ·clear hf ae ai aC;rcases kI with kI |kI
  ·simp only[kI] at JT JU JW e1 tW JV;simp[-dJ,-aU,-ec,-gU,Xw,Xx,Xz,XC,Xy,OT,o1,o3,o4,Fy,XA,xC,vA,kI,oY,JQ,A5,FM,JT,JU,g2,g5,g8,g9,xB,tW,k8,k9,XF,JV,XJ,JW,e1,O2,XH,XI]
  ·simp only[kI] at JT JU JW e1 tW JV;simp[-dJ,-aU,-ec,-gU,Xw,Xx,Xz,XC,Xy,OT,o1,o3,o4,Fy,XA,xC,vA,kI,oY,JQ,A5,FM,JT,JU,g2,g5,g8,g9,xB,tW,k8,k9,XF,JV,XJ,JW,e1,O2,XH,XI]
 ·obtain⟨rfl,h8,rfl⟩:=hh;obtain⟨r,h1,h2⟩:=yb;refine⟨r,h1,.inl rfl,ec [d',.p (.int .i64 st),pW,.p (.int .i64 lp)],?_,h2⟩;simp[lX,qM,h8,ph,alh,cutAt,oY,Vs.sub,-aU]
end Go.Proofs.YtgplgbonlnodeaaGreatDoor
namespace Go.Proofs.YtgplgbonlnodeaaGreatDoor
open Go.Vs
theorem JX(t x:Int):∀l:List Int,x∈gm t l↔x=t∨x∈l
 |[]=>by simp[gm]
 |y::r=>by
  simp only[gm];split
  ·simp only[cN,JX t x r];constructor
   ·rintro (h |h |h)
    ·exact .inr (.inl h)
    ·exact .inl h
    ·exact .inr (.inr h)
   ·rintro (h |h |h)
    ·exact .inr (.inl h)
    ·exact .inl h
    ·exact .inr (.inr h)
  ·simp only[cN]
theorem XK{t:Int}:∀{l:List Int},dw l→t∉l→dw (gm t l)
 |[],_,_=>by simp[gm]
 |y::r,h,hn=>by
  obtain⟨h1,h2⟩:=xM.1 h;simp only[cN,not_or] at hn;simp only[gm];split
  ·rename_i ah;refine xM.2 ⟨fun z hz=>?_,XK h2 hn.2⟩;rcases(JX t z r).1 hz with rfl |hz
   ·exact ah
   ·exact h1 z hz
  ·refine xM.2 ⟨fun z hz=>?_,h⟩;rcases cN.1 hz with rfl |hz
   ·omega
   ·have:=h1 z hz;omega
theorem XL(t:Int):∀l:List Int,(gm t l).length=l.length+1
 |[]=>rfl
 |y::r=>by
  simp only[gm];split
  ·simp[XL t r]
  ·rfl
def nz(rs:List Int)(l:List Int):List Int:=rs.foldl (fun l r=>gm r l) l
theorem XM(x:Int):∀(rs l:List Int),x∈nz rs l↔x∈rs∨x∈l
 |[],l=>by simp[nz]
 |r::rs,l=>by
  have:=XM x rs (gm r l);simp only[nz,Af] at this⊢;rw[this,JX];simp only[cN];constructor
  ·rintro (h |h |h)
   ·exact .inl (.inr h)
   ·exact .inl (.inl h)
   ·exact .inr h
  ·rintro ((h |h) |h)
   ·exact .inr (.inl h)
   ·exact .inl h
   ·exact .inr (.inr h)
theorem XN:∀{rs l:List Int},dw l→rs.Nodup→(∀r∈rs,r∉l)→dw (nz rs l)
 |[],l,h,_,_=>h
 |r::rs,l,h,hn,hd=>by
  obtain⟨h1,h2⟩:=vS.1 hn;show dw (nz rs (gm r l));refine XN (XK h (hd r (by simp))) h2 fun x hx hm=>?_;rcases(JX r x l).1 hm with rfl |hm
  ·exact h1 hx
  ·exact hd x (jD _ hx) hm
theorem XO:∀(rs l:List Int),(nz rs l).length=l.length+rs.length
 |[],l=>rfl
 |r::rs,l=>by
  have:=XO rs (gm r l);simp only[nz,Af] at this⊢;rw[this,XL];simp;omega
theorem XP:∀{a b:List Int},dw a→dw b→(∀x,x∈a↔x∈b)→a=b
 |[],[],_,_,_=>rfl
 |[],y::b,_,_,h=>absurd ((h y).2 (by simp)) (by simp)
 |x::a,[],_,_,h=>absurd ((h x).1 (by simp)) (by simp)
 |x::a,y::b,ha,hb,h=>by
  obtain⟨a1,a2⟩:=xM.1 ha;obtain⟨b1,b2⟩:=xM.1 hb;have pI:x=y:=by
   have h1:=(h x).1 (by simp);have h2:=(h y).2 (by simp);rcases cN.1 h1 with h1 |h1
   ·exact h1
   ·rcases cN.1 h2 with h2 |h2
    ·exact h2.symm
    ·have:=b1 x h1;have:=a1 y h2;omega
  subst pI;congr 1
  refine XP a2 b2 fun z=>?_;constructor
  ·intro hz;rcases cN.1 ((h z).1 (jD _ hz)) with rfl |h1
   ·have:=a1 z hz;omega
   ·exact h1
  ·intro hz;rcases cN.1 ((h z).2 (jD _ hz)) with rfl |h1
   ·have:=b1 z hz;omega
   ·exact h1
def rowOf(S:fe)(s f:Nat):Option (Int×List Int):=(S[s]?).bind fun R=>R[f]?
theorem ali(S:fe)(s f:Nat)(r:Int)(s' f':Nat):rowOf (CB s f r S) s' f'=if s'=s∧f'=f then(rowOf S s' f').map (fun p=>(p.1,gm r p.2)) else rowOf S s' f':=by
 unfold rowOf CB;rw[PO];cases h:S[s']? with
 |none=>simp
 |some R=>
  by_cases hs:s=s'
  ·subst hs;show amX (some (if s=s then _ else _)) _=_;rw[if_pos rfl];simp only[PB,true_and];rw[PO];cases h2:R[f']? with
   |none=>simp
   |some p=>
    by_cases hf:f=f'
    ·subst hf;show some (if f=f then _ else _)=_;rw[if_pos rfl,if_pos rfl];rfl
    ·show some (if f=f' then _ else _)=_;rw[if_neg hf,if_neg (fun e=>hf e.symm)]
  ·show amX (some (if s=s' then _ else _)) _=_;rw[if_neg hs,if_neg (fun e=>hs e.1.symm)]
theorem JY(bs:List Bool)(k s f:Nat)(r:Int)(S:fe)(s' f':Nat):rowOf (n8 bs k s f r S) s' f'=if bs.getD k false=true∧s'=s∧f'=f then(rowOf S s' f').map (fun p=>(p.1,gm r p.2)) else rowOf S s' f':=by
 unfold n8;split
 ·rename_i h;rw[ali];by_cases h2:s'=s∧f'=f
  ·rw[if_pos h2,if_pos ⟨h,h2⟩]
  ·rw[if_neg h2,if_neg (fun e=>h2 e.2)]
 ·rename_i h;rw[if_neg (fun e=>h e.1)]
theorem O3(bs:List Bool)(k f:Nat)(r:Int)(S:fe)(s' f':Nat):∀n,rowOf (qA bs k f r n S) s' f'=if bs.getD k false=true∧f'=f∧1≤s'∧s'≤n then(rowOf S s' f').map (fun p=>(p.1,gm r p.2)) else rowOf S s' f'
 | 0=>by rw[if_neg (by omega)];rfl
 |n+1=>by
  have ih:=O3 bs k f r S s' f' n;simp only[qA];rw[JY];by_cases h:s'=n+1
  ·subst h;rw[ih,if_neg (c:=_∧_∧_∧n+1≤n) (by omega)];by_cases h2:bs.getD k false=true∧f'=f
   ·rw[if_pos ⟨h2.1,rfl,h2.2⟩,if_pos ⟨h2.1,h2.2,by omega,aV _⟩]
   ·rw[if_neg (fun e=>h2 ⟨e.1,e.2.2⟩),if_neg (fun e=>h2 ⟨e.1,e.2.1⟩)]
  ·rw[if_neg (fun e=>h e.2.1),ih];by_cases h2:bs.getD k false=true∧f'=f∧1≤s'∧s'≤n
   ·rw[if_pos h2,if_pos ⟨h2.1,h2.2.1,h2.2.2.1,by omega⟩]
   ·rw[if_neg h2,if_neg (fun e=>h2 ⟨e.1,e.2.1,e.2.2.1,by omega⟩)]
def oa(vs:List Bool)(e:Nat×Nat×Int×Int)(s f:Nat):Bool:=decide (f=e.2.2.1.toNat)&&(decide (s=e.2.1)||(decide (e.2.1=0)&& !vs.getD e.2.2.1.toNat false))
theorem alj(bs vs:List Bool)(st:Int)(S:fe)(e:Nat×Nat×Int×Int)(s f:Nat)(hs:s<st.toNat):
    rowOf (lu bs vs st S e) s f=if(bs.getD (e.1-1) false&&oa vs e s f)=true then(rowOf S s f).map (fun p=>(p.1,gm e.2.2.2 p.2)) else rowOf S s f:=by
 unfold lu oa;simp only[bQ,o0,decide_eq_true_eq,ud];split
 ·rename_i h;rw[JY];by_cases h2:bs.getD (e.1-1) false=true∧s=e.2.1∧f=e.2.2.1.toNat
  ·rw[if_pos h2,if_pos ⟨h2.1,h2.2.2,.inl h2.2.1⟩]
  ·rw[if_neg h2,if_neg];rintro⟨a1,a2,a3 |⟨a3,a4⟩⟩
   ·exact h2 ⟨a1,a3,a2⟩
   ·rcases h with h |h
    ·omega
    ·rw[a4] at h;cases h
 ·rename_i h;simp only[not_or,Nat.not_lt,Nat.le_zero_eq,Bool.not_eq_true] at h;rw[O3,JY];by_cases h2:bs.getD (e.1-1) false=true∧f=e.2.2.1.toNat
  ·rw[if_pos (c:=_∧_∧(_∨_)) ⟨h2.1,h2.2,.inr ⟨h.1,h.2⟩⟩];by_cases h3:s=0
   ·rw[if_neg (by omega),if_pos ⟨h2.1,by omega,h2.2⟩]
   ·rw[if_pos ⟨h2.1,h2.2,by omega,by omega⟩,if_neg (by omega)]
  ·rw[if_neg (fun e=>h2 ⟨e.1,e.2.1⟩),if_neg (fun e=>h2 ⟨e.1,e.2.2⟩),if_neg (fun e=>h2 ⟨e.1,e.2.1⟩)]
def lz(bs vs:List Bool)(L:List (Nat×Nat×Int×Int))(s f:Nat):List Int:=(L.filter fun e=>bs.getD (e.1-1) false&&oa vs e s f).map (·.2.2.2)
theorem O4(bs vs:List Bool)(st:Int)(s f:Nat)(hs:s<st.toNat):∀(L:List (Nat×Nat×Int×Int)) (S:fe),
    rowOf (L.foldl (lu bs vs st) S) s f=(rowOf S s f).map fun p=>(p.1,nz (lz bs vs L s f) p.2)
 |[],S=>by simp[lz,nz]
 |e::L,S=>by
  rw[Af,O4 bs vs st s f hs L,alj _ _ _ _ _ _ _ hs];unfold lz;rw[xK];split
  ·rw[PC];congr 1
  ·rfl
theorem XQ(bb:List Bn)(n s f:Nat)(hs:s<n):rowOf (eB n (jB bb)) s f=(bb[f]?).map fun b=>(b.lo.ar,els b.lo.tu):=by
 unfold rowOf jB;rw[amY,if_pos hs];simp
theorem alk(bs vs:List Bool)(st:Int)(S:fe)(e:Nat×Nat×Int×Int):(lu bs vs st S e).length=S.length:=by
 have h1:∀(k s f:Nat) (r:Int) (S:fe),(n8 bs k s f r S).length=S.length:=fun k s f r S=>by
  unfold n8 CB;split<;>simp
 have h2:∀(k f:Nat) (r:Int) (n:Nat) (S:fe),(qA bs k f r n S).length=S.length:=fun k f r n S=>by
  induction n with
  |zero=>rfl
  |succ n ih=>simp only[qA];rw[h1,ih]
 unfold lu;split
 ·rw[h1]
 ·rw[h2,h1]
theorem JZ(bs vs:List Bool)(st:Int):∀(L:List (Nat×Nat×Int×Int)) (S:fe),(L.foldl (lu bs vs st) S).length=S.length
 |[],S=>rfl
 |e::L,S=>by rw[Af,JZ bs vs st L,alk]
def qB(e:Nat×Nat×Int×Int):Nat×Int×Int:=(e.2.1,e.2.2.1,e.2.2.2)
theorem FO(vs:List Bool)(s:Nat):∀(K:List (Int×Int)) (v:Nat),(jb vs s K v).map qB=(K.filter fun p=>!nT vs s p.1).map fun p=>(s,p.1,p.2)
 |[],_=>rfl
 |(a,b)::r,v=>by
  simp only[jb];by_cases hs:nT vs s a=true
  ·simp[hs,FO vs s r v]
  ·have hs:nT vs s a=false:=by simpa using hs
   simp only[hs,xK,Bool.not_false,if_true,ob,if_false,dA,FO vs s r (v+1)];rfl
theorem XR(vs:List Bool){K:List (Int×Int)}(hK:K.Nodup):∀(n s v:Nat),((gR vs K n s v).map qB).Nodup
 | 0,_,_=>by simp[gR]
 |n+1,s,v=>by
  simp only[gR,vW];rw[YL];refine⟨?_,XR vs hK n (s+1) _,?_⟩
  ·rw[FO];refine Ko.2 (PM ?_ (PN _ hK));rintro⟨a,b⟩ ⟨a',b'⟩ h h2;simp only[lB.injEq,true_and] at h2;exact h (by rw[h2.1,h2.2])
  ·intro x hx y hy;obtain⟨e,he,rfl⟩:=dz.1 hx;obtain⟨e',wq,rfl⟩:=dz.1 hy;have h1:=(JC vs s K v e he).1;have h2:=(xn vs K n (s+1) _ e' wq).1;intro h;have :e.2.1=e'.2.1:=congrArg Prod.fst h;omega
theorem XS(vs:List Bool)(K:List (Int×Int)):∀(n s v:Nat) e,e∈gR vs K n s v→nT vs e.2.1 e.2.2.1=false
 | 0,_,_,_,h=>by simp[gR] at h
 |n+1,s,v,e,h=>by
  simp only[gR,cW] at h;rcases h with h |h
  ·have :qB e∈(jb vs s K v).map qB:=Kc h;rw[FO] at this;obtain⟨p,hp,hk⟩:=dz.1 this;have h2:=(rH.1 hp).2;have e1:s=e.2.1:=congrArg Prod.fst hk;have e2:p.1=e.2.2.1:=congrArg (fun k=>k.2.1) hk;rw[←e1,←e2];simpa using h2
  ·exact XS vs K n (s+1) _ e h
theorem XT(vs:List Bool)(K:List (Int×Int)){p:Int×Int}(hp:p∈K):∀(n s v s':Nat),s≤s'→s'<s+n→nT vs s' p.1=false→∃e∈gR vs K n s v,qB e=(s',p.1,p.2)
 | 0,s,v,s',h1,h2,_=>by omega
 |n+1,s,v,s',h1,h2,h3=>by
  by_cases h:s'=s
  ·subst h;have :(s',p.1,p.2)∈(jb vs s' K v).map qB:=by
    rw[FO];exact dz.2 ⟨p,rH.2 ⟨hp,by simp[h3]⟩,rfl⟩
   obtain⟨e,he,hk⟩:=dz.1 this;exact⟨e,by simp only[gR,cW];exact .inl he,hk⟩
  ·obtain⟨e,he,hk⟩:=XT vs K hp n (s+1) (v+(jb vs s K v).length) s' (by omega) (by omega) h3;exact⟨e,by simp only[gR,cW];exact .inr he,hk⟩
theorem CI:∀(l:List Bn) (i:Nat) (p:Int×Int),p∈cB i l↔∃(j:Nat) (b:Bn),l[j]? =some b∧p.1=((i+j:Nat):Int)∧p.2∈els b.up.tu∧p.2∉els b.lo.tu
 |[],i,p=>by simp[cB]
 |b::r,i,p=>by
  simp only[cB,cW,CI r (i+1) p];constructor
  ·rintro (h |⟨j,b',h1,h2,h3⟩)
   ·unfold vF at h;obtain⟨t,ht,rfl⟩:=dz.1 h;obtain⟨h1,h2⟩:=rH.1 ht;exact⟨0,b,rfl,rfl,h1,by simpa using h2⟩
   ·exact⟨j+1,b',by simpa using h1,by rw[h2];congr 1;omega,h3⟩
  ·rintro⟨j,b',h1,h2,h3,h4⟩;cases j with
   |zero=>
    simp at h1;subst h1;left;unfold vF;exact dz.2 ⟨p.2,rH.2 ⟨h3,by simpa using h4⟩,by rw[←show p.1=(i:Int) from h2]⟩
   |succ j=>exact .inr ⟨j,b',by simpa using h1,by rw[h2];congr 1;omega,h3,h4⟩
theorem alm{l:List Int}(h:dw l):l.Nodup:=PM (fun h e=>by omega) h
theorem XU:∀(l:List Bn) (i:Nat),(∀b∈l,dw (els b.up.tu))→(cB i l).Nodup
 |[],_,_=>by simp[cB]
 |b::r,i,h=>by
  simp only[cB];rw[YL];refine⟨?_,XU r (i+1) fun x hx=>h x (jD _ hx),?_⟩
  ·unfold vF;refine Ko.2 (PM ?_ (PN _ (alm (h b (by simp)))));intro a b h h2;exact h (congrArg Prod.snd h2)
  ·intro x hx y hy pI;unfold vF at hx;obtain⟨t,_,rfl⟩:=dz.1 hx;obtain⟨j,b',_,h2,_⟩:=(CI r (i+1) y).1 hy;rw[←pI] at h2;simp only at h2;omega
theorem XV{bs vs:List Bool}{L:List (Nat×Nat×Int×Int)}{s f:Nat}{r:Int}:r∈lz bs vs L s f↔∃e∈L,bs.getD (e.1-1) false=true∧oa vs e s f=true∧e.2.2.2=r:=by
 unfold lz;rw[dz];constructor
 ·rintro⟨e,he,rfl⟩;obtain⟨h1,h2⟩:=rH.1 he;simp only[bQ] at h2;exact⟨e,h1,h2.1,h2.2,rfl⟩
 ·rintro⟨e,h1,h2,h3,rfl⟩;exact⟨e,rH.2 ⟨h1,by rw[h2,h3];rfl⟩,rfl⟩
structure sT (vs:List Bool) (K:List (Int×Int)) (L:List (Nat×Nat×Int×Int)):Prop where
 ky:L.Pairwise fun e e'=>qB e≠qB e'
 sk:∀e∈L,nT vs e.2.1 e.2.2.1=false
 fr:∀e∈L,(e.2.2.1,e.2.2.2)∈K
 nn:∀e∈L,0≤e.2.2.1
theorem sT.take{vs:List Bool}{K:List (Int×Int)}{L:List (Nat×Nat×Int×Int)}(h:sT vs K L)(j:Nat):sT vs K (L.take j):=
 ⟨aqt (List.take_sublist j L) h.ky,fun e he=>h.sk e (j8 he),fun e he=>h.fr e (j8 he),fun e he=>h.nn e (j8 he)⟩
theorem vM{vs:List Bool}{e:Nat×Nat×Int×Int}{s f:Nat}:oa vs e s f=true↔f=e.2.2.1.toNat∧(s=e.2.1∨e.2.1=0∧vs.getD e.2.2.1.toNat false=false):=by
 unfold oa;simp
theorem sT.same{vs:List Bool}{K:List (Int×Int)}{L:List (Nat×Nat×Int×Int)}(h:sT vs K L){e e':Nat×Nat×Int×Int}(he:e∈L)(wq:e'∈L){s f:Nat}(h1:oa vs e s f=true)(h2:oa vs e' s f=true)(hr:e.2.2.2=e'.2.2.2):qB e=qB e':=by
 obtain⟨a1,a2⟩:=vM.1 h1;obtain⟨b1,b2⟩:=vM.1 h2;have hn:=h.nn e he;have cO:=h.nn e' wq;have hf:e.2.2.1=e'.2.2.1:=by omega
 have k1:=h.sk e he;have k2:=h.sk e' wq;have hs:e.2.1=e'.2.1:=by
  rcases a2 with a2 |⟨a2,a3⟩
  ·rcases b2 with b2 |⟨b2,b3⟩
   ·omega
   ·by_cases h0:e.2.1=0
    ·omega
    ·simp only[nT,FW,decide_eq_false_iff_not,PF] at k1;rcases k1 with k1 |k1
     ·omega
     ·rw[←hf,k1] at b3;cases b3
  ·rcases b2 with b2 |⟨b2,b3⟩
   ·by_cases h0:e'.2.1=0
    ·omega
    ·simp only[nT,FW,decide_eq_false_iff_not,PF] at k2;rcases k2 with k2 |k2
     ·omega
     ·rw[hf,k2] at a3;cases a3
   ·omega
 unfold qB;rw[hs,hf,hr]
theorem sT.nodup{vs:List Bool}{K:List (Int×Int)}{L:List (Nat×Nat×Int×Int)}(h:sT vs K L)(bs:List Bool)(s f:Nat):(lz bs vs L s f).Nodup:=by
 unfold lz;refine Ko.2 ?_;refine aqu ?_ (PN _ h.ky);intro a b ha hb hk hr;obtain⟨a1,a2⟩:=rH.1 ha;obtain⟨b1,b2⟩:=rH.1 hb;simp only[bQ] at a2 b2;exact hk (h.same a1 b1 a2.2 b2.2 hr)
variable {fi : List Fi} {bb : List Bn} {st : Int}
theorem Ac(CJ:∀b∈bb,dw (els b.up.tu)):sT (fi.map Fi.va) (cB 0 bb) (dX fi bb st) where
 ky:=Ko.1 (XR (fi.map Fi.va) (XU bb 0 CJ) st.toNat 0 (aW st))
 sk:=XS _ _ _ _ _
 fr e he:=(xn _ _ _ _ _ e he).2.2
 nn e he:=by
  obtain⟨j,h,_⟩:=zQ _ _ _ (xn _ _ _ _ _ e he).2.2;simp only at h;omega
theorem FP{L:List (Nat×Nat×Int×Int)}(h:sT (fi.map Fi.va) (cB 0 bb) L)(bs:List Bool){s f:Nat}(hs:s<st.toNat){b:Bn}(hb:bb[f]? =some b)(dU:dw (els b.lo.tu)):
    rowOf (L.foldl (lu bs (fi.map Fi.va) st) (eB st.toNat (jB bb))) s f=some (b.lo.ar,nz (lz bs (fi.map Fi.va) L s f) (els b.lo.tu))∧dw (nz (lz bs (fi.map Fi.va) L s f) (els b.lo.tu)):=by
 refine⟨by rw[O4 _ _ _ _ _ hs,XQ _ _ _ _ hs,hb];rfl,XN dU (h.nodup bs s f) fun r hr hl=>?_⟩;obtain⟨e,h1,_,h3,rfl⟩:=XV.1 hr;obtain⟨j,b',g1,g2,_,g4⟩:=(CI bb 0 _).1 (h.fr e h1);have:=(vM.1 h3).1;simp only at g2 g4;have :j=f:=by omega
 subst this;rw[hb] at g1;cases g1;exact g4 hl
theorem aln(bs vs:List Bool)(L:List (Nat×Nat×Int×Int))(s f:Nat):(lz bs vs L s f).length≤L.length:=by
 unfold lz;rw[cx];exact F5 _ _
theorem XW{S:fe}{s f:Nat}{p:Int×List Int}(h:rowOf S s f=some p):∃R,S[s]? =some R∧R[f]? =some p:=by
 unfold rowOf at h;cases hS:S[s]? with
 |none=>rw[hS] at h;cases h
 |some R=>rw[hS] at h;exact⟨R,rfl,h⟩
theorem alo(bs:List Bool)(fA:bb.length=fi.length)(cC:1≤st)(CJ:∀b∈bb,dw (els b.up.tu))(dU:∀b∈bb,dw (els b.lo.tu)∧(els b.lo.tu).length≤1000)(hL:(dX fi bb st).length≤100000):Xv fi bb st bs:=by
 intro j e he;have hv:=(Ac (fi:=fi) (st:=st) CJ).take j;have hem:=bS he;obtain⟨_,hs,hf⟩:=xn _ _ _ _ _ e hem;obtain⟨k,hk,_,jG⟩:=zQ _ _ _ hf;simp only at hk jG;have hb:bb[k]? =some bb[k]:=aA (by omega);have m9:=bS hb;have hlen:∀s',(nz (lz bs (fi.map Fi.va) ((dX fi bb st).take j) s' k) (els bb[k].lo.tu)).length<1000000:=fun s'=>by
  rw[XO];have h1:=aln bs (fi.map Fi.va) ((dX fi bb st).take j) s' k;have h2:((dX fi bb st).take j).length≤(dX fi bb st).length:=by rw[pb];omega
  have h3:=(dU _ m9).2;omega
 have iA:e.2.2.1.toNat=k:=by omega
 refine⟨?_,fun hn n ic=>?_⟩
 ·obtain⟨h1,h2⟩:=FP hv bs (s:=e.2.1) (st:=st) (by omega) hb (dU _ m9).1;obtain⟨R,r1,r2⟩:=XW h1;rw[iA];exact⟨R,_,_,r1,r2,h2,hlen _⟩
 ·obtain⟨h1,h2⟩:=FP hv bs (s:=n+1) (st:=st) (by omega) hb (dU _ m9).1;rw[iA] at hn⊢;have h3:rowOf (qA bs (e.1-1) k e.2.2.2 n (n8 bs (e.1-1) e.2.1 k e.2.2.2 (((dX fi bb st).take j).foldl (lu bs (fi.map Fi.va) st) (eB st.toNat (jB bb))))) (n+1) k=some (bb[k].lo.ar,nz (lz bs (fi.map Fi.va) ((dX fi bb st).take j) (n+1) k) (els bb[k].lo.tu)):=by
   rw[O3,if_neg (by omega),JY,if_neg (by rintro⟨_,h,_⟩;exact hn (.inl (by omega))),h1]
  obtain⟨R,r1,r2⟩:=XW h3;exact⟨R,_,_,r1,r2,h2,hlen _⟩
end Go.Proofs.YtgplgbonlnodeaaGreatDoor
namespace Go.Proofs.YtgplgbonlnodeaaGreatDoor
open Go.Vs
theorem O6(bs vs:List Bool)(st:Int)(bb:List Bn)(L:List (Nat×Nat×Int×Int)){s f:Nat}(hs:s<st.toNat)(hb:bb[f]? =none):rowOf (L.foldl (lu bs vs st) (eB st.toNat (jB bb))) s f=none:=by
 rw[O4 _ _ _ _ _ hs,XQ _ _ _ _ hs,hb];rfl
theorem J5{fi:List Fi}{bb:List Bn}{st:Int}{V:List Bool}(CJ:∀b∈bb,dw (els b.up.tu))(dU:∀b∈bb,dw (els b.lo.tu)){ss:List (Sl Rl)}(h:ss.map stM=iO fi bb st V):
    ss.length=st.toNat∧∀(s:Nat) x,ss[s]? =some x→(els x).length=bb.length∧∀(f:Nat) r,(els x)[f]? =some r→∃b,bb[f]? =some b∧r.ar=b.lo.ar∧els r.tu=nz (lz V (fi.map Fi.va) (dX fi bb st) s f) (els b.lo.tu)∧dw (els r.tu):=by
 have hlen:ss.length=st.toNat:=by
  have:=congrArg oq h;rw[cx] at this;unfold iO at this;rw[JZ,CQ] at this;exact this
 refine⟨hlen,fun s x hx=>?_⟩;have dk:s<st.toNat:=by have:=(az.1 hx).1;omega
 have hR:(iO fi bb st V)[s]? =some (stM x):=by rw[←h,cP,hx];rfl
 have xw:∀f,rowOf (iO fi bb st V) s f=(els x)[f]?.map fun r=>(r.ar,els r.tu):=fun f=>by
  unfold rowOf;rw[hR];simp[stM]
 constructor
 ·rcases FZ (els x).length bb.length with h1 |h1 |h1
  ·have h2:=xw (els x).length;rw[lU (aV _)] at h2;have hb:bb[(els x).length]? =some bb[(els x).length]:=aA h1;have h3:=(FP (fi:=fi) (Ac (st:=st) CJ) V dk hb (dU _ (bS hb))).1;unfold iO at h2;rw[h3] at h2;cases h2
  ·exact h1
  ·have h2:=xw bb.length;rw[aA h1] at h2;unfold iO at h2;rw[O6 _ _ _ _ _ dk (lU (aV _))] at h2;cases h2
 ·intro f r hr;have h2:=xw f;rw[hr] at h2;cases hb:bb[f]? with
  |none=>
   unfold iO at h2;rw[O6 _ _ _ _ _ dk hb] at h2;cases h2
  |some b=>
   obtain⟨h3,h4⟩:=FP (fi:=fi) (Ac (st:=st) CJ) V dk hb (dU _ (bS hb));unfold iO at h2;rw[h3] at h2;simp only[eA,bI,lB.injEq] at h2;exact⟨b,rfl,h2.1.symm,h2.2.symm,by rw[←h2.2];exact h4⟩
theorem XX:∀{a b:List Int},dw a→dw b→(∀x∈a,x∈b)→a.length≤b.length
 |[],b,_,_,_=>b9 _
 |x::a,[],_,_,h=>absurd (h x (by simp)) (by simp)
 |x::a,y::b,ha,hb,h=>by
  obtain⟨a1,a2⟩:=xM.1 ha;obtain⟨b1,b2⟩:=xM.1 hb;have:=XX (a:=a) (b:=b) a2 b2 fun z hz=>by
   rcases cN.1 (h z (jD _ hz)) with rfl |h1
   ·have hx:=h x (by simp);have:=a1 z hz;rcases cN.1 hx with rfl |hx
    ·omega
    ·have:=b1 x hx;omega
   ·exact h1
  simp only[dZ];omega
theorem alq{l:List Int}(h:dw l){i:Nat}{x y:Int}(hi:0<i)(hx:l[i]? =some x)(hy:l[i-1]? =some y):y<x:=by
 obtain⟨h1,rfl⟩:=az.1 hx;obtain⟨h2,rfl⟩:=az.1 hy;exact F0.1 h (i-1) i h2 h1 (by omega)
theorem pN.part{n ar:Int}{l u:List Int}(h:pN n ar u)(hs:dw l)(lg:∀x∈l,x∈u):pN n ar l:=by
 obtain⟨h1,h2,h3,h4,h5⟩:=h;refine⟨h1,h2,h3,h4,fun i hi=>⟨fun x hx=>?_,fun x y h0 hx hy=>alq hs h0 hx hy⟩⟩;obtain⟨k,hk⟩:=eC (lg x (bS hx));exact(h5 k (az.1 hk).1).1 x hk
theorem alr(ats:List Int)(n:Int):∀(so:List Int) (t:Int),(kp n so.length t).map (fl ats 0)=so.reverse.reverse→jM ats n so.reverse t:=by
 have key:∀(k:Nat) (l:List Int) (t:Int),l.length=k→(kp n k t).map (fl ats 0)=l.reverse→jM ats n l t:=by
  intro k
  induction k with
  |zero=>intro l t hl _;have:=tY hl;subst this;trivial
  |succ k ih=>
   intro l t hl h;cases l with
   |nil=>simp at hl
   |cons s r=>
    simp only[kp,vW,dA,mF,List.reverse_cons] at h;have kI:r.length=k:=by simpa using hl
    have h2:=List.append_inj' h rfl;refine⟨?_,ih r _ kI h2.1⟩;simpa using h2.2
 intro so t h;refine key so.length so.reverse t (by simp) ?_;simpa using h
theorem Cs.within{n:Nat}{ats so:List Int}{b:Bn}(h:Cs n ats so b)(hn:(n:Int)=fK ats):vC ats so (els b.up.tu):=by
 obtain⟨_,_,_,_,_,h6⟩:=h;intro t ht;have h7:=h6 t ht;unfold lT at h7;obtain⟨k,hk,rfl⟩:=dz.1 h7;have h8:=(rH.1 hk).2;simp only[decide_eq_true_eq] at h8;rw[←hn];exact alr ats n so k (by rw[List.reverse_reverse];exact h8)
variable {sp : Sp} {a ma : Sl Int} {st : Int} {bs : Sl Bn} {ss : Sl (Sl Rl)} {V : List Bool}
theorem iF.sup(ok:iF sp a st bs):∀b∈els bs,dw (els b.up.tu):=fun b hb=>by
 obtain⟨_,_,_,_,h,_⟩:=ok.at b hb;exact xq h
theorem iF.sR(ok:iF sp a st bs):∀b∈els bs,dw (els b.lo.tu):=fun b hb=>by
 obtain⟨_,_,_,h,_⟩:=ok.at b hb;exact xq h
theorem J6(_:iF sp a st bs){s f:Nat}{b:Bn}(_:(els bs)[f]? =some b)(t:Int):
    t∈nz (lz V ((els sp.fi).map Fi.va) (dX (els sp.fi) (els bs) st) s f) (els b.lo.tu)↔(t∈els b.lo.tu∨∃e∈dX (els sp.fi) (els bs) st,V.getD (e.1-1) false=true∧oa ((els sp.fi).map Fi.va) e s f=true∧e.2.2.2=t):=by
 rw[XM,XV];exact Or.comm
theorem O7(ok:iF sp a st bs){s f:Nat}{b:Bn}(hb:(els bs)[f]? =some b)(t:Int)(ht:t∈nz (lz V ((els sp.fi).map Fi.va) (dX (els sp.fi) (els bs) st) s f) (els b.lo.tu)):t∈els b.up.tu:=by
 rcases(J6 ok hb t).1 ht with h |⟨e,h1,_,h3,rfl⟩
 ·obtain⟨_,_,_,_,_,h5,_⟩:=ok.at b (bS hb);exact h5 t h
 ·have hv:=Ac (fi:=els sp.fi) (st:=st) ok.sup;obtain⟨j,b',g1,g2,g3,_⟩:=(CI _ 0 _).1 (hv.fr e h1);have:=(vM.1 h3).1;simp only at g2 g3;have :j=f:=by omega
  subst this;rw[hb] at g1;cases g1;exact g3
theorem als(ok:iF sp a st bs){s f:Nat}(hv:((els sp.fi).map Fi.va).getD f false=false):lz V ((els sp.fi).map Fi.va) (dX (els sp.fi) (els bs) st) s f=lz V ((els sp.fi).map Fi.va) (dX (els sp.fi) (els bs) st) 0 f:=by
 unfold lz;congr 1
 refine List.filter_congr fun e he=>?_;congr 1
 have hk:=(Ac (fi:=els sp.fi) (st:=st) ok.sup).sk e he;have :oa ((els sp.fi).map Fi.va) e s f=true↔oa ((els sp.fi).map Fi.va) e 0 f=true:=by
  rw[vM,vM];refine and_congr_right fun hf=>?_;subst hf;have h0:e.2.1=0:=by
   simp only[nT,FW,decide_eq_false_iff_not,PF] at hk;rcases hk with hk |hk
   ·omega
   ·rw[hk] at hv;cases hv
  exact⟨fun _=>.inr ⟨h0,hv⟩,fun _=>.inr ⟨h0,hv⟩⟩
 cases h1:oa ((els sp.fi).map Fi.va) e s f<;>cases h2:oa ((els sp.fi).map Fi.va) e 0 f<;>simp_all
theorem J7(V:List Bool){st:Int}(cC:1≤st):∀v:Nat,(v:Int)≤st→0≤iG V st v∧iG V st v<st
 | 0,_=>by simp only[iG];omega
 |v+1,h=>by
  simp only[iG];split
  ·omega
  ·exact J7 V cC v (by omega)
theorem FQ(cC:1≤st):((aW st:Nat):Int)≤st:=by
 unfold aW;split<;>omega
theorem alu(ok:iF sp a st bs)(CK:els ma=els a)(h:(els ss).map stM=iO (els sp.fi) (els bs) st V)(lp:Int):tU sp ⟨ma,st,ss,lp⟩:=by
 obtain⟨hl,hc⟩:=J5 ok.sup ok.sR h;have h1:=ok.mC.ns;have h2:=ok.mC.nf;have h3:=ok.len;obtain⟨s1,s2,s3,s4,s5,s6⟩:=ok.sc;refine⟨by omega,by omega,by show(els ss).length≤64;omega,by show(els ma).length≤10;rw[CK];omega,fun x hx=>?_,fun f hf=>?_⟩
 ·obtain⟨s,hs⟩:=eC hx;obtain⟨g1,g2⟩:=hc s x hs;refine⟨by omega,fun r hr=>?_⟩;obtain⟨f,hf⟩:=eC hr;obtain⟨b,b1,b2,b3,b4⟩:=g2 f r hf;have m9:=bS b1;have:=XX b4 (ok.sup b m9) fun t ht=>O7 ok b1 t (by rw[←b3];exact ht);have:=(ok.tu b m9).2;omega
 ·have:=(ok.mC.fd f hf).2.2;omega
theorem alv(ok:iF sp a st bs)(CK:els ma=els a)(h:(els ss).map stM=iO (els sp.fi) (els bs) st V):qz sp ⟨ma,st,ss,iG V st (aW st)⟩:=by
 obtain⟨hl,hc⟩:=J5 ok.sup ok.sR h;obtain⟨s1,s2,s3,s4,s5,s6⟩:=ok.sc;have h3:=ok.len;unfold qz;refine(Cv ok.mC.fd).2 ⟨⟨by rw[CK];exact s1,s2,s3,s4,by rw[CK];exact s5,by rw[CK];exact s6⟩,by show((els ss).length:Int)=st;omega,(J7 V s3 _ (FQ s3)).1,(J7 V s3 _ (FQ s3)).2,fun x hx=>?_⟩;obtain⟨s,hs⟩:=eC hx;obtain⟨g1,g2⟩:=hc s x hs;refine⟨by omega,fun i hi f r hf hr=>?_⟩;obtain⟨b,b1,b2,b3,b4⟩:=g2 i r hr;have XY:=ok.bn i (by omega) b f b1 hf;have nV:(((els a).sum.toNat:Nat):Int)=(els a).sum:=by
  have:=Ct (els a) fun x hx=>by have:=s5 x hx;omega
  omega
 have aq:els a≠[]:=fun e=>by
  have HY:=ok.mC.fd f (bS hf);have h5:(els f.so)≠[]:=fun e2=>by have:=HY.2.1;rw[e2] at this;simp at this
  obtain⟨q,r,hq⟩:=List.exists_cons_of_ne_nil h5;have:=HY.1 q (by rw[hq];simp);rw[e] at s1;simp at s1;omega
 have aqr:1≤(els a).sum:=OA _ aq fun x hx=>(s5 x hx).1;have alw:(((els a).sum.toNat:Nat):Int)=fK (els a):=by unfold fK;split<;>omega
 have hw:=XY.within alw;obtain⟨e1,e2,e3,e4,e5,e6⟩:=XY;have lg:∀t∈els r.tu,t∈els b.up.tu:=fun t ht=>O7 ok b1 t (by rw[←b3];exact ht);show r.ar=_∧pN (els ma).sum r.ar (els r.tu)∧vC (els ma) (els f.so) (els r.tu)∧_;rw[CK];refine⟨by rw[b2,e1],?_,fun t ht=>hw t (lg t ht),fun pT x0 r0 rT oH=>?_⟩
 ·rw[nV] at e4;have:=e4.part b4 lg;rw[b2,e1,←e2];exact this
 ·obtain⟨k1,k2⟩:=hc 0 x0 rT;obtain⟨b',c1,c2,c3,c4⟩:=k2 i r0 oH;rw[b1] at c1;cases c1;refine⟨by rw[b2,c2],?_⟩;rw[b3,c3,als ok (f:=i) (s:=s) (by rw[fE,cP,hf];exact pT)]
theorem alx(ok:iF sp a st bs)(h:(els ss).map stM=iO (els sp.fi) (els bs) st V)(lp:Int):zW bs ⟨ma,st,ss,lp⟩:=by
 obtain⟨hl,hc⟩:=J5 ok.sup ok.sR h;intro x hx;obtain⟨s,hs⟩:=eC hx;obtain⟨g1,g2⟩:=hc s x hs;refine⟨g1,fun k hk b r hb hr=>?_⟩;obtain⟨b',b1,b2,b3,b4⟩:=g2 k r hr;rw[hb] at b1;cases b1;have fR:k<(els sp.fi).length:=by have:=ok.len;omega
 obtain⟨e1,e2,_⟩:=ok.bn k hk b _ hb (aA fR);exact⟨b2.symm,by rw[b2,e1,e2],fun t ht=>by rw[b3];exact(J6 ok hb t).2 (.inl ht),fun t ht=>O7 ok hb t (by rw[←b3];exact ht)⟩
end Go.Proofs.YtgplgbonlnodeaaGreatDoor
namespace Go.Proofs.YtgplgbonlnodeaaGreatDoor
open Go.Vs
set_option maxRecDepth 100000
theorem aly(a:Sl Int)(st:Int):∀H,av (call pg) 54 [.p (.agg [af a,.int .i64 st])] H=some (.val (.p (.int .i64 ((aW st:Nat):Int))),H):=by
 have hs:((aW st:Nat):Int)=if 1<st then st else 0:=by unfold aW;split<;>omega
 rw[hs];have hf:=rf Ub
 conv at hf=>rhs;reduce
 refine aG (aa:=[_]) hf rfl rfl rfl ?_;clear hf;by_cases h:1<st
 ·simp[h]
 ·simp[h]
theorem alz(s:Sl Bool)(v:Nat)(_:(els s).length<4611686018427387904)(hv:v<4611686018427387904):∀H,av (call pg) 83 [.p (dy s),.p (.int .i64 ((v+1 :Nat):Int))] H=some (.val (.p (.bool ((els s).getD v false))),H):=by
 have c1:IntKind.i64.wrap (((v+1 :Nat):Int)-1)=((v:Nat):Int):=by rw[wrap64 (by omega) (by omega)];omega
 have hf:=rf Uc
 conv at hf=>rhs;reduce
 refine aG (aa:=[_,_]) hf rfl rfl rfl ?_;clear hf;by_cases h:v<(els s).length
 ·have h2:(((v+1 :Nat):Int))≤(((els s).length:Nat):Int):=by omega
  have h3:(els s).getD v false=(els s)[v]:=by simp[fE,h]
  rw[h3];generalize ((v+1 :Nat):Int)=m1 at *;simp[pP,zJ h,h2,c1]
 ·have h2:¬(((v+1 :Nat):Int))≤(((els s).length:Nat):Int):=by omega
  have h3:(els s).getD v false=false:=by simp[fE,h]
  rw[h3];generalize ((v+1 :Nat):Int)=m1 at *;simp[pP,h2]
def fq(l:List Bool)(st:Int):Nat→Nat×Int
 | 0=>(0,0)
 |k+1=>if l.getD k false then((fq l st k).1+1,st-((k+1 :Nat):Int)) else fq l st k
theorem O8(l:List Bool)(st:Int):∀k,(fq l st k).1≤k
 | 0=>aV _
 |k+1=>by
  simp only[fq];split
  ·have:=O8 l st k;simp only;omega
  ·have:=O8 l st k;omega
theorem XZ(a:Sl Int)(st:Int)(h0:0≤st)(cC:st≤1000)(s:Sl Bool)(hl:(els s).length<4611686018427387904):
    ∀H,av (call pg) 28 [.p (.agg [af a,.int .i64 st]),.p (dy s)] H=some (.val (.bA [.p (.int .i64 (((fq (els s) st (aW st)).1 :Nat):Int)),.p (.int .i64 ((fq (els s) st (aW st)).2))]),H):=by
 have hn:aW st≤1000:=by unfold aW;split<;>omega
 have O9:=aly a st;have key:=jd (c:=call pg) (G:=pg.G) (keep:=[1,2,6,7,8]) (b:=bd pK 0) (fun i=>[(1,.p (dy s)),(2,.box 0 0),(6,.p (.int .i64 (((fq (els s) st i).1 :Nat):Int))),(7,.p (.int .i64 ((fq (els s) st i).2))),(8,.p (.int .i64 ((i+1 :Nat):Int)))])
  (fun _=>⟨[[.p (af a),.p (.int .i64 st)]],[]⟩) (aW st) (fun _=>True)
  (fun o e H=>o= .exit 0∧e.get 6= .p (.int .i64 (((fq (els s) st (aW st)).1 :Nat):Int))∧e.get 7= .p (.int .i64 ((fq (els s) st (aW st)).2))) trivial
  (fun i hi _=>by
   have J8:=alz s i hl (by omega);have c1:=bw (k:=(fq (els s) st i).1) (by have:=O8 (els s) st i;omega);have c2:=bw (k:=i+1) (by omega);have c3:IntKind.i64.wrap (st-((i+1 :Nat):Int))=st-((i+1 :Nat):Int):=by rw[wrap64 (by omega) (by omega)]
   have c4:(((i+1 :Nat):Int))≤((aW st:Nat):Int):=by omega
   have hsc:fq (els s) st (i+1)=if(els s).getD i false then((fq (els s) st i).1+1,st-((i+1 :Nat):Int)) else fq (els s) st i:=rfl
   cases hb:(els s).getD i false with
   |true=>
    rw[hb] at J8;rw[hb,if_pos rfl] at hsc;rw[hsc]
    conv in bd pK 0=>reduce
    generalize ((i+1+1 :Nat):Int)=m2 at *;generalize ((i+1 :Nat):Int)=m1 at *;generalize (((fq (els s) st i).1+1 :Nat):Int)=n1 at *;simp[J8,c1,c2,c3,c4,O9]
   |false=>
    rw[hb] at J8;rw[hb] at hsc;simp only[ob,if_false] at hsc;rw[hsc]
    conv in bd pK 0=>reduce
    generalize ((i+1+1 :Nat):Int)=m2 at *;generalize ((i+1 :Nat):Int)=m1 at *;simp[J8,c2,c4,O9])
  (fun _=>by
   have c4:¬(((aW st+1 :Nat):Int))≤((aW st:Nat):Int):=by omega
   conv in bd pK 0=>reduce
   generalize ((aW st+1 :Nat):Int)=m1 at *;simp[c4,O9])
 obtain⟨o,e,H,hx,rfl,g6,g7⟩:=bJ key;have h1:fq (els s) st 0=(0,0):=rfl;simp[h1] at hx;have ae:=rf (bd pK 0)
 conv at ae=>rhs;reduce
 have hf:=rf pK
 conv at hf=>rhs;reduce
 rw[←ae] at hf;refine aG (aa:=[_,_]) hf rfl rfl rfl ?_;clear hf ae;simp[hx,g6,g7]
theorem alA(p q:Sl Bool)(hp:(els p).length<4611686018427387904)(_:(els q).length<4611686018427387904):
    ∃r:Bool,(∀H,av (call pg) 22 [.p (dy p),.p (dy q)] H=some (.val (.p (.bool r)),H))∧(r=true↔els p=els q):=by
 by_cases hlen:(els p).length=(els q).length
 ·have key:=jd (c:=call pg) (G:=pg.G) (keep:=[0,1,5]) (b:=bd a22 0) (fun i=>[(0,.p (dy p)),(1,.p (dy q)),(5,.p (.int .i64 ((i:Nat):Int)))]) (fun _=>⟨[],[]⟩) (els p).length
   (fun i=>(els p).take i=(els q).take i)
   (fun o e H=>H=⟨[],[]⟩∧((o= .exit 0∧els p=els q)∨(o= .ret∧e.get 4= .p (.bool false)∧els p≠els q))) (by simp)
   (fun i hi hI=>by
    have bp:i<(els q).length:=by omega
    conv in bd a22 0=>reduce
    by_cases hc:(els p)[i]=(els q)[i]
    ·have h2:(els p).take (i+1)=(els q).take (i+1):=by rw[sW hi,sW bp,hI,hc]
     simp[pP,zJ hi,zJ bp,hi,hc,h2,bw (k:=i) (by omega)]
    ·have h2:els p≠els q:=fun h=>hc (by simp only[h]);simp[pP,zJ hi,zJ bp,hi,hc,h2])
   (fun hI=>by
    rw[oo,hlen,oo] at hI
    conv in bd a22 0=>reduce
    simp[pP,hI])
  obtain⟨o,e,H,hx,rfl,hq⟩:=bJ key;simp at hx;rcases hq with⟨rfl,h⟩ |⟨rfl,h,h2⟩
  ·refine⟨true,?_,by simp[h]⟩;have ae:=rf (bd a22 0)
   conv at ae=>rhs;reduce
   have hf:=rf a22
   conv at hf=>rhs;reduce
   rw[←ae] at hf;refine aG (aa:=[_,_]) hf rfl rfl rfl ?_;clear hf ae;simp[pP,hlen,hx]
  ·refine⟨false,?_,by simp[h2]⟩;have ae:=rf (bd a22 0)
   conv at ae=>rhs;reduce
   have hf:=rf a22
   conv at hf=>rhs;reduce
   rw[←ae] at hf;refine aG (aa:=[_,_]) hf rfl rfl rfl ?_;clear hf ae;simp[pP,hlen,hx,h]
 ·refine⟨false,?_,by simp;exact fun h=>hlen (by rw[h])⟩;have ae:=rf (bd a22 0)
  conv at ae=>rhs;reduce
  have hf:=rf a22
  conv at hf=>rhs;reduce
  rw[←ae] at hf;refine aG (aa:=[_,_]) hf rfl rfl rfl ?_;clear hf ae;simp[pP,hlen]
theorem Pb(l:List Bool)(st:Int):∀k,iG l st k=(fq l st k).2
 | 0=>rfl
 |k+1=>by
  simp only[iG,fq];split
  ·rfl
  ·exact Pb l st k
theorem X0{l:List Bool}{st:Int}:∀{k:Nat},(fq l st k).1=0→∀i,i<k→l.getD i false=false
 | 0,_,i,h=>absurd h (Ai _)
 |k+1,h,i,hi=>by
  simp only[fq] at h;split at h
  ·simp at h
  ·rename_i hb;by_cases iW:i=k
   ·subst iW;simpa using hb
   ·exact X0 h i (by omega)
theorem Pc{l:List Bool}{st:Int}:∀{k:Nat},(fq l st k).1=1→∀i,i<k→(l.getD i false=true↔(i:Int)=st-(fq l st k).2-1)
 | 0,h,_,_=>by simp[fq] at h
 |k+1,h,i,hi=>by
  simp only[fq] at h⊢;split at h
  ·rename_i hb;rw[if_pos hb];have h0:(fq l st k).1=0:=by simp only at h;omega
   simp only;by_cases iW:i=k
   ·subst iW;exact iff_of_true (by simpa using hb) (by omega)
   ·have:=X0 h0 i (by omega);rw[this];exact iff_of_false (by simp) (by omega)
  ·rename_i hb;rw[if_neg hb];by_cases iW:i=k
   ·subst iW;refine iff_of_false (by simpa using hb) ?_;have h2:∃j,j<i∧l.getD j false=true:=by
     refine qD fun eU=>?_;have :∀k,(∀i,i<k→l.getD i false=false)→(fq l st k).1=0:=by
      intro k
      induction k with
      |zero=>intro _;rfl
      |succ k ih=>
       intro hk;simp only[fq];rw[if_neg (by rw[hk k (by omega)];simp)];exact ih fun i hi=>hk i (by omega)
     have:=this i fun j hj=>by
      cases hh:l.getD j false with
      |false=>rfl
      |true=>exact absurd ⟨j,hj,hh⟩ eU
     omega
    obtain⟨j,hj,DF⟩:=h2;have:=(Pc h j hj).1 DF;omega
   ·exact Pc h i (by omega)
theorem X1{st lp:Int}(eR:0≤lp∧lp<st)(h1:1<st){i:Nat}(hi:i<aW st):(preB st lp).getD i false=decide ((i:Int)=st-lp-1):=by
 have hN:aW st=st.toNat:=by unfold aW;rw[if_pos h1]
 unfold preB;rw[if_pos h1,fE,vX];by_cases h:(st-lp-1).toNat=i
 ·rw[if_pos h,if_pos (by simp;omega)];simp;omega
 ·rw[if_neg h,amY,if_pos (by omega)];simp;omega
theorem alB{a b:List Bool}(h:a.length=b.length)(h2:∀i,i<a.length→a.getD i false=b.getD i false):a=b:=by
 refine List.ext_getElem h fun i h1 h3=>?_;have:=h2 i h1;simpa[fE,h1,h3] using this
variable {sp : Sp} {a ma : Sl Int} {st : Int} {bs : Sl Bn} {ss : Sl (Sl Rl)} {V : List Bool}
theorem sT.inj{vs:List Bool}{K:List (Int×Int)}{L:List (Nat×Nat×Int×Int)}(h:sT vs K L){e e':Nat×Nat×Int×Int}(he:e∈L)(wq:e'∈L)(hk:qB e=qB e'):e=e':=by
 obtain⟨i,hi,rfl⟩:=p6 he;obtain⟨j,hj,rfl⟩:=p6 wq;have hp:=F0.1 h.ky;rcases FZ i j with h1 |h1 |h1
 ·exact absurd hk (hp i j hi hj h1)
 ·subst h1;rfl
 ·exact absurd hk.symm (hp j i hj hi h1)
theorem Pd{x:Sl Rl}{f:Nat}{r:Rl}(h:(els x)[f]? =some r):Cq x f=els r.tu:=by
 unfold Cq;rw[h]
theorem alC(ok:iF sp a st bs)(h:(els ss).map stM=iO (els sp.fi) (els bs) st V){e:Nat×Nat×Int×Int}(he:e∈dX (els sp.fi) (els bs) st):nZ (els ss) e=V.getD (e.1-1) false:=by
 obtain⟨hl,hc⟩:=J5 ok.sup ok.sR h;have hv:=Ac (fi:=els sp.fi) (st:=st) ok.sup;obtain⟨_,hs,hf⟩:=xn _ _ _ _ _ e he;obtain⟨k,hk,_,jG⟩:=zQ _ _ _ hf;simp only at hk jG;have dk:e.2.1<(els ss).length:=by omega
 have hx:(els ss)[e.2.1]? =some (els ss)[e.2.1]:=aA dk;obtain⟨g1,g2⟩:=hc _ _ hx;have hkx:k<(els (els ss)[e.2.1]).length:=by omega
 have hr:=aA hkx;obtain⟨b,b1,b2,b3,b4⟩:=g2 k _ hr;have iA:e.2.2.1.toNat=k:=by omega
 have X2:oa ((els sp.fi).map Fi.va) e e.2.1 k=true:=vM.2 ⟨iA.symm,.inl rfl⟩;unfold nZ;rw[hx];simp only;rw[iA,Pd hr,b3];have Dj:e.2.2.2∈nz (lz V ((els sp.fi).map Fi.va) (dX (els sp.fi) (els bs) st) e.2.1 k) (els b.lo.tu)↔V.getD (e.1-1) false=true:=by
  rw[J6 ok b1];constructor
  ·rintro (h1 |⟨e',h1,h2,h3,h4⟩)
   ·obtain⟨j,b',q1,q2,_,q4⟩:=(CI _ 0 _).1 hf;simp only at q2 q4;have :j=k:=by omega
    subst this;rw[b1] at q1;cases q1;exact absurd h1 q4
   ·have:=hv.inj he h1 (hv.same he h1 X2 h3 h4.symm);rw[this];exact h2
  ·intro h1;exact .inr ⟨e,he,h1,X2,rfl⟩
 cases hb:V.getD (e.1-1) false with
 |true=>exact decide_eq_true (Dj.2 hb)
 |false=>exact decide_eq_false fun hm=>by rw[Dj.1 hm] at hb;cases hb
theorem alE(ok:iF sp a st bs)(h:(els ss).map stM=iO (els sp.fi) (els bs) st V)(hlen:V.length=pR (els sp.fi) (els bs) st)(dE:1<st→(fq V st (aW st)).1=1):
    fL (els sp.fi) (els bs) st (iG V st (aW st)) (els ss)=V:=by
 have cC:=ok.sc.2.2.1;have nN:=J7 V cC _ (FQ cC);have cg:=Fs st (iG V st (aW st));unfold fL;refine alB (by rw[iq,cg,cx,hlen];rfl) fun i hi=>?_;rw[iq,cg,cx] at hi;rw[fE];by_cases h1:i<aW st
 ·have IM:1<st:=by
   unfold aW at h1;split at h1
   ·assumption
   ·omega
  rw[cH (by omega),←fE,X1 nN IM h1,Pb];have h2:=Pc (dE IM) i h1;cases hb:V.getD i false with
  |true=>exact decide_eq_true (h2.1 hb)
  |false=>exact decide_eq_false fun hm=>by rw[h2.2 hm] at hb;cases hb
 ·rw[eL (by omega),cg,cP];have hj:i-aW st<(dX (els sp.fi) (els bs) st).length:=by omega
  rw[aA hj];simp only[eA,kU];rw[alC ok h (bO hj),Cp ((els sp.fi).map Fi.va) (cB 0 (els bs)) st.toNat 0 (aW st) (i-aW st) _ (aA hj)];congr 1
  omega
end Go.Proofs.YtgplgbonlnodeaaGreatDoor
namespace Go.Proofs.YtgplgbonlnodeaaGreatDoor
open Go.Vs
set_option maxRecDepth 100000
attribute [local irreducible] oT oR oS eW
variable {so f3 f4 : PD} {fi : Sl Fi} {a : Sl Int} {bs : Sl Bn} {st : Int}
theorem alF(o1:so.one=true)(o3:f3.one=true)(o4:f4.one=true)(cC:st≤4)(fA:(els bs).length=(els fi).length)(hl:(els bs).length≤1000)
    (hu:∀b∈els bs,(els b.up.tu).length≤900∧(els b.lo.tu).length≤900) (hs:∀b∈els bs,dw (els b.lo.tu)):
    ∀H,av (call pg) 15 [.p (.agg [so,bZ fi,f3,f4]),.p (.agg [af a,.int .i64 st]),.p (bG bs)] H=some (.val (.p (.int .i64 ((pR (els fi) (els bs) st:Nat):Int))),H):=by
 have c1:=Oq (fi:=fi) (a:=a) (st:=st) o1 o3 o4 hl hu hs;have c2:=Wn (f3:=f3) (f4:=f4) (a:=a) o1 cC fA hl fun b hb=>(hu b hb).1;generalize iE so f3 f4 fi a st bs (mr (cB 0 (els bs)))=C at *;generalize pR (els fi) (els bs) st=n at *;have hf:=rf TN
 conv at hf=>rhs;reduce
 refine aG (aa:=[_,_,_]) hf rfl rfl rfl ?_;clear hf;simp[c1,c2,o1,o3,o4]
end Go.Proofs.YtgplgbonlnodeaaGreatDoor
namespace Go.Proofs.YtgplgbonlnodeaaGreatDoor
open Go.Vs
set_option maxRecDepth 100000
set_option maxHeartbeats 4000000
attribute [local irreducible] oT oR oS eW
variable {sp : Sp} {a : Sl Int} {st : Int} {bs : Sl Bn}
theorem Pe(ok:iF sp a st bs):(dX (els sp.fi) (els bs) st).length≤4*(6*64):=by
 have h1:=Ci (els bs) 0 64 fun b hb=>(ok.tu b hb).2;have h2:=Fo ((els sp.fi).map Fi.va) (cB 0 (els bs)) st.toNat 0 (aW st);have h3:(els bs).length≤6:=by have:=ok.len;have:=ok.mC.nf;omega
 have h4:(cB 0 (els bs)).length≤6*64:=gA h1 (kz 64 h3);have h5:st.toNat*(cB 0 (els bs)).length≤4*(6*64):=ug (by have:=ok.sc.2.2.2.1;omega) h4;exact gA h2 h5
theorem X3(ok:iF sp a st bs)(ha:a≠.cV)(sS:∀b∈els bs,b.lo.tu≠.cV)(V:Sl Bool)(hV:(els V).length<4611686018427387904):
    ∃m:Mo,(∀H,av (call pg) 24 [.p (.agg [jg sp.so,bZ sp.fi,jh sp.pr,ji sp.fa]),.p (.agg [af a,.int .i64 st]),.p (bG bs),.p (dy V)] H=some (.val (.p (.agg [af m.a,.int .i64 m.st,bK m.ss,.int .i64 m.lp])),H))∧
     m.st=st∧els m.a=els a∧m.lp=iG (els V) st (aW st)∧(els m.ss).map stM=iO (els sp.fi) (els bs) st (els V):=by
 have hl:=ok.len;have BB:=ok.mC.nf;obtain⟨s1,s2,s3,s4,s5,s6⟩:=ok.sc;have hd:=alo (els V) hl s3 ok.sup (fun b hb=>⟨ok.sR b hb,by have:=(ok.tu b hb).1;omega⟩) (gA (Pe ok) (by decide));obtain⟨r,c,e1,e2,_,_⟩:=ak0 (so:=jg sp.so) (f3:=jh sp.pr) (f4:=ji sp.fa) (fi:=sp.fi) (by simp) (by simp) (by simp) ⟨s3,s4⟩ ha (by omega) hl (by omega) (fun b hb=>by have:=ok.tu b hb;omega) ok.sR sS hV hd;exact⟨⟨r.1,st,r.2,iG (els V) st (aW st)⟩,c,rfl,e1,rfl,e2⟩
theorem X4(ok:iF sp a st bs):∀H,av (call pg) 15 [.p (.agg [jg sp.so,bZ sp.fi,jh sp.pr,ji sp.fa]),.p (.agg [af a,.int .i64 st]),.p (bG bs)] H=some (.val (.p (.int .i64 ((pR (els sp.fi) (els bs) st:Nat):Int))),H):=
 alF (by simp) (by simp) (by simp) ok.sc.2.2.2.1 ok.len (by have:=ok.len;have:=ok.mC.nf;omega) (fun b hb=>by have:=ok.tu b hb;omega) ok.sR
theorem X5(fi:List Fi)(bb:List Bn)(st lp:Int)(ss:List (Sl Rl)):(fL fi bb st lp ss).length=pR fi bb st:=by
 unfold fL pR;rw[iq,Fs,cx]
theorem alG(qC:∀H,av (call pg) 10 [] H=some (.val (.p (.bool true)),H))(sp:Sp)(rB:xg sp)(tv:nY sp)(a:Sl Int)(st:Int)(bs:Sl Bn)(V:Sl Bool)(ij:(els a).length<4611686018427387904)(dk:(els sp.so).length<4611686018427387904)(fA:(els bs).length<4611686018427387904)(ha:a≠.cV)(sS:∀b∈els bs,b.lo.tu≠.cV):
    ∀H,av (call pg) 5 [.p (.agg sp.cl),.p (.agg [af a,.int .i64 st]),.p (bG bs),.p (dy V)] H=some (.val (.p (.bool true)),H):=by
 obtain⟨r1,c1,d1⟩:=Ws sp rB tv a st bs ij fA dk;have lV:=pP V;have hf:=rf a5
 conv at hf=>rhs;reduce
 refine aG (aa:=[_,_,_,_]) hf rfl rfl rfl ?_;clear hf;cases r1 with
 |false=>simp[qC,c1]
 |true=>
 by_cases CL:(200 :Int)<((els V).length:Int)
 ·simp[qC,c1,lV,CL]
 have ok:=d1 rfl;clear d1;obtain⟨m,c2,m1,m2,m3,m4⟩:=X3 ok ha sS V (by omega);have hs:=alu ok m2 m4 m.lp;have hv:=alv ok m2 m4;rw[←m3] at hv;have hi:=alx (ma:=m.a) ok m4 m.lp;have hm:m=⟨m.a,st,m.ss,m.lp⟩:=by rw[←m1]
 rw[←hm] at hs hv;have fk:zW bs m:=by rw[hm];exact hi
 obtain⟨r3,c3,d3⟩:=WM sp m;have:=d3.2 hs;subst this;obtain⟨r4,c4,d4⟩:=WN hs;have:=d4.2 hv;subst this;obtain⟨r5,c5,d5⟩:=WQ hv hs ok;have:=d5.2 fk;subst this;have c6:=X4 ok;have c7:=XZ a st (by have:=ok.sc.2.2.1;omega) (by have:=ok.sc.2.2.2.1;omega) V (by omega);have c8:=WR hv hs ok fk m1 m2;have ie:=X5 (els sp.fi) (els bs) st m.lp (els m.ss);have nJ:=pP (pS (fL (els sp.fi) (els bs) st m.lp (els m.ss)));rw[Ft,ie] at nJ;obtain⟨r9,c9,d9⟩:=alA (pS (fL (els sp.fi) (els bs) st m.lp (els m.ss))) V (by rw[Ft,ie];have:=Pe ok;have:=FQ ok.sc.2.2.1;have:=ok.sc.2.2.2.1;unfold pR;omega) (by omega);rw[Ft] at d9;have heq:(els V).length=pR (els sp.fi) (els bs) st→(1<st→(fq (els V) st (aW st)).1=1)→r9=true:=fun h1 h2=>d9.2 (by rw[m3];exact alE ok m4 h1 h2);clear d3 d4 d5 d9 ie;generalize dy (pS (fL (els sp.fi) (els bs) st m.lp (els m.ss)))=B at *;generalize pR (els sp.fi) (els bs) st=n at *;generalize (fq (els V) st (aW st)).2=lp at *;generalize (fq (els V) st (aW st)).1=k at *;clear hs hv hi fk hm m2 m3 m4 ok;obtain⟨xa,Ad,Ae,CM⟩:=m;dsimp only at *;subst m1;by_cases hn:(els V).length=n
 ·have X6:=heq hn;clear heq;rw[hn] at lV CL;by_cases h1:1<Ad
  ·by_cases hk:k=1
   ·have:=X6 fun _=>hk;subst this;simp[qC,c1,lV,CL,c2,c3,c4,c5,c6,c7,c8,c9,h1,hk]
   ·have bW:¬((k:Nat):Int)=1:=by omega
    simp[qC,c1,lV,CL,c2,c3,c4,c5,c6,c7,c8,nJ,h1,bW]
  ·have:=X6 fun h=>absurd h h1;subst this;simp[qC,c1,lV,CL,c2,c3,c4,c5,c6,c7,c8,c9,h1]
 ·have ic:¬(((els V).length:Nat):Int)=((n:Nat):Int):=by omega
  simp[qC,c1,lV,CL,c2,c3,c4,c5,c6,c7,c8,nJ,ic]
end Go.Proofs.YtgplgbonlnodeaaGreatDoor
end
