/- Texts joined: TcpP Mob. -/
import Derived.Test.YtfelmdkeaacfeaaGreatDoorTM17
import Derived.Test.YtfelmdkeaacfeaaGreatDoorTM16
set_option maxRecDepth 100000
set_option maxHeartbeats 40000000
set_option linter.unusedVariables false
set_option linter.unusedSimpArgs false
section
namespace Go.Proofs.YtfelmdkeaacfeaaGreatDoor.W
open Go.RowKit
def nxF (st:List Nat×Nat):List Nat×Nat:=if st.1=[] then([],st.2+1) else(st.1.dropLast,st.2)
def nxI (st:List Nat×Nat):Nat:=(st.1.getLast?).getD st.2
def nxS:Nat→List Nat×Nat→List Nat
 | 0,_=>[]
 | n+1,st=>nxI st :: nxS n (nxF st)
def nxN:Nat→List Nat×Nat→List Nat×Nat
 | 0,st=>st
 | n+1,st=>nxN n (nxF st)
theorem nxN_add:∀(a b:Nat) (st:List Nat×Nat),nxN (a+b) st=nxN b (nxN a st)
 | 0,b,st=>by rw [Nat.zero_add];rfl
 | a+1,b,st=>by rw [show a+1+b=(a+b)+1 by omega];exact nxN_add a b (nxF st)
theorem nxS_add:∀(a b:Nat) (st:List Nat×Nat),nxS (a+b) st=nxS a st ++ nxS b (nxN a st)
 | 0,b,st=>by rw [Nat.zero_add];rfl
 | a+1,b,st=>by rw [show a+1+b=(a+b)+1 by omega];show nxI st :: nxS (a+b) (nxF st)=_;rw [nxS_add a b (nxF st)];rfl
theorem nxS_len:∀(n:Nat) (st:List Nat×Nat),(nxS n st).length=n
 | 0,_=>rfl
 | n+1,st=>by rw [nxS,List.length_cons,nxS_len]
theorem nxN_len:∀(n:Nat) (st:List Nat×Nat),st.2≤(nxN n st).2∧(nxN n st).2≤st.2+n∧(nxN n st).1.length≤st.1.length
 | 0,st=>⟨Nat.le_refl _,Nat.le_refl _,Nat.le_refl _⟩
 | n+1,st=>by
  obtain⟨h1,h2,h3⟩:=nxN_len n (nxF st)
  have h4:(nxF st).2≤st.2+1∧st.2≤(nxF st).2:=by unfold nxF;split <;> simp
  have h5:(nxF st).1.length≤st.1.length:=by
   unfold nxF;split
   ·simp
   ·simp
  show _≤(nxN n (nxF st)).2∧(nxN n (nxF st)).2≤_∧(nxN n (nxF st)).1.length≤_
  omega
def Tr.fl (S:Tr):List Nat×Nat:=(S.free,S.slots.length)
theorem add_fl (S:Tr)(n:Nd):(S.add n).fl=nxF S.fl:=by
 unfold Tr.add Tr.fl nxF
 cases e:S.free.getLast? with
 | none =>
  have e':S.free=[]:=by simpa using e
  simp [Tr.snoc,e']
 | some i =>
  have e':S.free≠[]:=fun h=>by rw [h] at e;cases e
  simp [e']
theorem linked_fl {S S':Tr}{l:List Nat}{p j c:Nat}(h:Linked S S' l p j c):S'.fl=S.fl:=by unfold Tr.fl;rw [h.free,h.len]
structure CpD (S:Tr) (K:Nat→List Nat) (d:Nat→Nat) (S':Tr) (K':Nat→List Nat) (d':Nat→Nat) (i:Nat) (KJ:Nat→List Nat) (P:List Nat) (r:Nat→Nat):Prop where
 eb:S'.b=S.b
 es:S'.s=S.s
 root:S'.root=S.root
 old:∀y,(S.at y).isSome=true→S'.at y=S.at y∧K' y=K y∧d' y=d y
 new:∀x∈P,S.at (r x)=none∧∃n n',S.at x=some n∧S'.at (r x)=some n'∧n'.kind=n.kind∧n'.name=n.name∧n'.attrs=n.attrs∧n'.data=n.data
 cov:∀y,(S'.at y).isSome=true→(S.at y).isSome=true∨∃x∈P,y=r x
 kn:∀x∈P,K' (r x)=(KJ x).map r
 inj:∀x∈P,∀y∈P,r x=r y→x=y
 dn:∀x∈P,d' (r x)+d i=d x+1
 lk:Lk S' K' d'
 top:∀q,r i∉K' q
 sl:P.map r=nxS P.length S.fl
 fl:S'.fl=nxN P.length S.fl
 fr:∀k∈S'.free,S'.slots[k]? = some none
 frnd:S'.free.Nodup
theorem CpD.hd {S K d S' K' d' i KJ P r}(h:CpD S K d S' K' d' i KJ P r)(x:Nat):S'.hd x=S.hd x:=by unfold Tr.hd;rw [h.eb,h.es]
theorem cps_start {S:Tr}{K:Nat→List Nat}{d:Nat→Nat}(hL:Lk S K d)(hf:∀i∈S.free,S.slots[i]? = some none)(hn:S.free.Nodup)(hl:S.slots.length < 1000000){i:Nat}{n n0:Nd}(hi:S.at i=some n)
  (h1:n0.kind=n.kind)(h2:n0.name=n.name)(h3:n0.attrs=n.attrs)(h4:n0.data=n.data)(z1:n0.parent=0)(z2:n0.first=0)(z3:n0.last=0)(z4:n0.prev=0)(z5:n0.next=0){KJ:Nat→List Nat}(hJ:KJ i=[]){r:Nat→Nat}(hr:r i=S.addI) :
  CpD S K d (S.add n0) K (dAdd d S.addI) i KJ [i] r:=by
 have k:=added_of hf hn n0
 have hne:∀y,(S.at y).isSome=true→y≠S.addI:=fun y hy e=>by rw [e,k.no] at hy;cases hy
 refine⟨k.eb,k.es,k.root,fun y hy=>⟨by rw [k.at_,if_neg (hne y hy)],rfl,by unfold dAdd;rw [if_neg (hne y hy)]⟩,fun x hx=>?_,fun y hy=>?_,fun x hx=>?_,fun x hx y hy _=>?_,fun x hx=>?_,hL.added k z1 z2 z3 z4 z5 hl,fun q=>?_,?_,?_,fun j hj=>?_,k.frnd hn⟩
 ·simp only [List.mem_singleton] at hx;subst hx
  exact⟨by rw [hr];exact k.no,n,n0,hi,by rw [k.at_,hr,if_pos rfl],h1,h2,h3,h4⟩
 ·rw [k.at_] at hy
  by_cases e:y=S.addI
  ·exact .inr ⟨i,by simp,by rw [hr];exact e⟩
  ·rw [if_neg e] at hy;exact .inl hy
 ·simp only [List.mem_singleton] at hx;subst hx
  rw [hr,hJ,hL.no_kids k.no];rfl
 ·simp only [List.mem_singleton] at hx hy;rw [hx,hy]
 ·simp only [List.mem_singleton] at hx;subst hx
  unfold dAdd;rw [hr,if_pos rfl];omega
 ·rw [hr];exact hL.no_par k.no q
 ·simp only [List.map_cons,List.map_nil,hr,List.length_singleton];rfl
 ·exact add_fl S n0
 ·obtain⟨h6,h7⟩:=k.free j hj
  have:=hf j h6
  rw [k.slot j h7 (List.getElem?_eq_some_iff.1 this).1];exact this
theorem linkN_id (S:Tr){l:List Nat}{p c x:Nat}(n:Nd)(h1:x≠c)(h2:x≠p)(h3:x∉l):linkN S l p l.length c x n=n:=by
 have e1:¬l[l.length]? = some x:=by simp
 have e2:¬pv l l.length=some x:=fun e=>by
  rw [pv_last] at e
  exact h3 (List.mem_of_getLast? e)
 unfold linkN
 simp only [h1,h2,e1,e2,if_false,false_and]
theorem cps_step {S S1 S2:Tr}{K K1 K2:Nat→List Nat}{d d1 d2:Nat→Nat}{i q:Nat}{KJ KJ':Nat→List Nat}{P Q:List Nat}{r r2 r3:Nat→Nat}(L:Lk S K d)(h1:CpD S K d S1 K1 d1 i KJ P r)(h2:CpD S1 K1 d1 S2 K2 d2 q K Q r2)
  (hiP:i∈P)(hqQ:q∈Q)(hq:q∈K i)(hPc:∀x∈P,∀k∈KJ x,k∈P)(hQc:∀x∈Q,∀k∈K x,k∈Q)(hQp:∀x∈Q,x≠q→∃z∈Q,x∈K z)(hPQ:∀x∈P,x∉Q)(hQd:∀x∈Q,(S.at x).isSome=true)
  (hJi:KJ' i=KJ i ++ [q])(hJo:∀x,x≠i→KJ' x=KJ x)(hJQ:∀x∈Q,KJ x=K x)(hr1:∀x∈P,r3 x=r x)(hr2:∀x∈Q,r3 x=r2 x) :
  ∃d3,∀S3,Linked S2 S3 (K2 (r i)) (r i) (K2 (r i)).length (r2 q)→CpD S K d S3 (linkK K2 (r i) (K2 (r i)).length (r2 q)) d3 i KJ' (P ++ Q) r3:=by
 have hiq:i≠q:=fun e=>hPQ i hiP (e ▸ hqQ)
 have hdq:=L.dep i q hq
 -- where the copies stand
 have hP1:∀x∈P,(S1.at (r x)).isSome=true:=fun x hx=>by obtain⟨_,n,n',_,h,_⟩:=h1.new x hx;rw [h];rfl
 have hP2:∀x∈P,(S2.at (r x)).isSome=true:=fun x hx=>by rw [(h2.old _ (hP1 x hx)).1];exact hP1 x hx
 have hQ2:∀x∈Q,(S2.at (r2 x)).isSome=true:=fun x hx=>by obtain⟨_,n,n',_,h,_⟩:=h2.new x hx;rw [h];rfl
 have hQ1:∀x∈Q,S1.at (r2 x)=none:=fun x hx=>(h2.new x hx).1
 have hPQr:∀x∈P,∀y∈Q,r x≠r2 y:=fun x hx y hy e=>by
  have:=hP1 x hx
  rw [e,hQ1 y hy] at this;cases this
 have hSr:∀y,(S.at y).isSome=true→(∀x∈P,y≠r x)∧(∀x∈Q,y≠r2 x):=fun y hy=>by
  have hy1:(S1.at y).isSome=true:=by rw [(h1.old y hy).1];exact hy
  exact⟨fun x hx e=>(by rw [e,(h1.new x hx).1] at hy;cases hy),fun x hx e=>(by rw [e,hQ1 x hx] at hy1;cases hy1)⟩
 have hSat:∀y,(S.at y).isSome=true→S2.at y=S.at y∧K2 y=K y∧d2 y=d y:=fun y hy=>by
  obtain⟨a1,a2,a3⟩:=h1.old y hy
  obtain⟨b1,b2,b3⟩:=h2.old y (by rw [a1];exact hy)
  exact⟨b1.trans a1,b2.trans a2,b3.trans a3⟩
 -- the children in S2
 have kP:∀x∈P,K2 (r x)=(KJ x).map r:=fun x hx=>by rw [(h2.old _ (hP1 x hx)).2.1,h1.kn x hx]
 have kQ:∀x∈Q,K2 (r2 x)=(K x).map r2:=h2.kn
 have dP:∀x∈P,d2 (r x)+d i=d x+1:=fun x hx=>by rw [(h2.old _ (hP1 x hx)).2.2];exact h1.dn x hx
 have dQ:∀x∈Q,d2 (r2 x)+d1 q=d1 x+1:=h2.dn
 have dQ':∀x∈Q,d2 (r2 x)+d q=d x+1:=fun x hx=>by
  have:=dQ x hx
  rw [(h1.old q (hQd q hqQ)).2.2,(h1.old x (hQd x hx)).2.2] at this
  exact this
 have hii:r i≠r2 q:=hPQr i hiP q hqQ
 -- what lies in the copy of the child's subtree
 obtain⟨inQ,hinQ⟩:∃inQ:Nat→Prop,∀y,inQ y↔∃x∈Q,y=r2 x:=⟨fun y=>∃x∈Q,y=r2 x,fun y=>Iff.rfl⟩
 have hkin:∀y k,k∈K2 y→(inQ k↔inQ y):=fun y k hk=>by
  rw [hinQ,hinQ]
  constructor
  ·rintro⟨x,hx,rfl⟩
   by_cases e:x=q
   ·subst e;exact absurd hk (h2.top y)
   ·obtain⟨z,hz,hxz⟩:=hQp x hx e
    have:r2 x∈K2 (r2 z):=by rw [kQ z hz];exact List.mem_map.2 ⟨x,hxz,rfl⟩
    exact⟨z,hz,h2.lk.one_par hk this⟩
  ·rintro⟨x,hx,rfl⟩
   rw [kQ x hx] at hk
   obtain⟨z,hz,rfl⟩:=List.mem_map.1 hk
   exact⟨z,hQc x hx z hz,rfl⟩
 have hnP:∀x∈P,¬inQ (r x):=fun x hx h=>by
  obtain⟨y,hy,e⟩:=(hinQ _).1 h
  exact hPQr x hx y hy e
 have hnS:∀y,(S.at y).isSome=true→¬inQ y:=fun y hy h=>by
  obtain⟨x,hx,e⟩:=(hinQ _).1 h
  exact(hSr y hy).2 x hx e
 have hyQ:∀x∈Q,inQ (r2 x):=fun x hx=>(hinQ _).2 ⟨x,hx,rfl⟩
 haveI:∀y,Decidable (inQ y):=fun y=>Classical.propDecidable _
 obtain⟨d3,hd3⟩:∃d3:Nat→Nat,∀y,d3 y=if inQ y then d2 y+1 else d2 y:=⟨fun y=>if inQ y then d2 y+1 else d2 y,fun _=>rfl⟩
 have hri2:d2 (r i)=1:=by have:=dP i hiP;omega
 obtain⟨nP,hnP2⟩:=Option.isSome_iff_exists.1 (hP2 i hiP)
 obtain⟨nQ,hnQ2⟩:=Option.isSome_iff_exists.1 (hQ2 q hqQ)
 refine⟨d3,fun S3 hL=>?_⟩
 have hhd:∀x,S3.hd x=S2.hd x:=hL.hd
 have L3:Lk S3 (linkK K2 (r i) (K2 (r i)).length (r2 q)) d3:=by
  refine h2.lk.link hnP2 hnQ2 (Nat.le_refl _) h2.top hii hL.at_ hL.len hhd ?_ (fun y k hk=>?_) ?_ (fun x=>?_) (fun x hx hxc hxp=>?_)
  ·rw [hd3,if_pos (hyQ q hqQ)]
   have:=dQ' q hqQ
   omega
  ·rw [hd3,hd3]
   have:=h2.lk.dep y k hk
   by_cases e:inQ y
   ·rw [if_pos ((hkin y k hk).2 e),if_pos e];omega
   ·rw [if_neg (fun h=>e ((hkin y k hk).1 h)),if_neg e];omega
  ·rw [hd3,if_neg (hnP i hiP)]
  ·rw [hd3]
   have:=h2.lk.low x
   split
   ·rename_i e
    obtain⟨z,hz,rfl⟩:=(hinQ _).1 e
    have:=dQ' z hz
    have:=L.low z
    have:=L.pos i (L.kin i q hq).1
    omega
   ·omega
  ·rw [hd3]
   have:¬inQ x:=fun h=>by
    obtain⟨z,hz,rfl⟩:=(hinQ _).1 h
    by_cases e:z=q
    ·exact hxc (by rw [e])
    ·obtain⟨y,hy,hzy⟩:=hQp z hz e
     exact hxp (r2 y) (by rw [kQ y hy];exact List.mem_map.2 ⟨z,hzy,rfl⟩)
   rw [if_neg this]
   exact h2.lk.one x hx hxp
 have hat3:∀y,(S.at y).isSome=true→S3.at y=S.at y:=fun y hy=>by
  rw [hL.at_,(hSat y hy).1]
  obtain⟨n,hn⟩:=Option.isSome_iff_exists.1 hy
  rw [hn]
  obtain⟨e1,e2⟩:=hSr y hy
  show some _=some _
  rw [linkN_id S2 n (e2 q hqQ) (e1 i hiP) (fun h=>by
   rw [kP i hiP] at h
   obtain⟨k,hk,e⟩:=List.mem_map.1 h
   exact e1 k (hPc i hiP k hk) e.symm)]
 have hmapP:∀l:List Nat,(∀k∈l,k∈P)→l.map r3=l.map r:=fun l hl=>List.map_congr_left fun k hk=>hr1 k (hl k hk)
 have hmapQ:∀l:List Nat,(∀k∈l,k∈Q)→l.map r3=l.map r2:=fun l hl=>List.map_congr_left fun k hk=>hr2 k (hl k hk)
 refine⟨hL.b.trans (h2.eb.trans h1.eb),hL.s.trans (h2.es.trans h1.es),hL.root.trans (h2.root.trans h1.root),fun y hy=>⟨hat3 y hy,?_,?_⟩,fun x hx=>?_,fun y hy=>?_,fun x hx=>?_,fun x hx y hy e=>?_,fun x hx=>?_,L3,fun y=>?_,?_,?_,fun k hk=>?_,?_⟩
 ·unfold linkK
  rw [if_neg ((hSr y hy).1 i hiP)]
  exact(hSat y hy).2.1
 ·rw [hd3,if_neg (hnS y hy)];exact(hSat y hy).2.2
 ·rcases List.mem_append.1 hx with hx | hx
  ·obtain⟨a1,n,n',a2,a3,a4,a5,a6,a7⟩:=h1.new x hx
   have a8:S2.at (r x)=some n':=by rw [(h2.old _ (hP1 x hx)).1];exact a3
   exact⟨by rw [hr1 x hx];exact a1,n,linkN S2 (K2 (r i)) (r i) (K2 (r i)).length (r2 q) (r x) n',a2,by rw [hr1 x hx,hL.at_,a8];rfl,a4,a5,a6,a7⟩
  ·obtain⟨a1,n,n',a2,a3,a4,a5,a6,a7⟩:=h2.new x hx
   rw [(h1.old x (hQd x hx)).1] at a2
   refine⟨?_,n,linkN S2 (K2 (r i)) (r i) (K2 (r i)).length (r2 q) (r2 x) n',a2,by rw [hr2 x hx,hL.at_,a3];rfl,a4,a5,a6,a7⟩
   rw [hr2 x hx]
   cases e:S.at (r2 x) with
   | none=>rfl
   | some m =>
    have:=(h1.old (r2 x) (by rw [e];rfl)).1
    rw [a1,e] at this;cases this
 ·rw [hL.at_,Option.isSome_map] at hy
  rcases h2.cov y hy with h | ⟨x,hx,e⟩
  ·rcases h1.cov y h with h | ⟨x,hx,e⟩
   ·exact .inl h
   ·exact .inr ⟨x,List.mem_append_left _ hx,by rw [hr1 x hx];exact e⟩
  ·exact .inr ⟨x,List.mem_append_right _ hx,by rw [hr2 x hx];exact e⟩
 ·unfold linkK
  rcases List.mem_append.1 hx with hx | hx
  ·rw [hr1 x hx]
   by_cases e:x=i
   ·subst e
    rw [if_pos rfl,List.take_length,List.drop_length,kP x hx,hJi,List.map_append,hmapP _ (hPc x hx)]
    simp [hr2 q hqQ]
   ·have:r x≠r i:=fun h=>e (h1.inj x hx i hiP h)
    rw [if_neg this,kP x hx,hJo x e,hmapP _ (hPc x hx)]
  ·have hne:r2 x≠r i:=fun h=>hPQr i hiP x hx h.symm
   have hxi:x≠i:=fun e=>hPQ i hiP (e ▸ hx)
   rw [hr2 x hx,if_neg hne,kQ x hx,hJo x hxi,hJQ x hx,hmapQ _ (hQc x hx)]
 ·rcases List.mem_append.1 hx with hx | hx <;> rcases List.mem_append.1 hy with hy | hy
  ·rw [hr1 x hx,hr1 y hy] at e;exact h1.inj x hx y hy e
  ·rw [hr1 x hx,hr2 y hy] at e;exact absurd e (hPQr x hx y hy)
  ·rw [hr2 x hx,hr1 y hy] at e;exact absurd e.symm (hPQr y hy x hx)
  ·rw [hr2 x hx,hr2 y hy] at e;exact h2.inj x hx y hy e
 ·rcases List.mem_append.1 hx with hx | hx
  ·rw [hr1 x hx,hd3,if_neg (hnP x hx)];exact dP x hx
  ·rw [hr2 x hx,hd3,if_pos (hyQ x hx)]
   have:=dQ' x hx
   omega
 ·rw [hr1 i hiP]
  intro h
  unfold linkK at h
  have hno:∀z,r i∉K2 z:=fun z hz=>by
   by_cases e:(S1.at z).isSome=true
   ·rw [(h2.old z e).2.1] at hz
    exact h1.top z hz
   ·have hz2:(S2.at z).isSome=true:=(h2.lk.kin z _ hz).1
    rcases h2.cov z hz2 with h | ⟨x,hx,rfl⟩
    ·exact e h
    ·rw [kQ x hx] at hz
     obtain⟨k,hk,e2⟩:=List.mem_map.1 hz
     exact hPQr i hiP k (hQc x hx k hk) e2.symm
  split at h
  ·rw [List.take_length,List.drop_length] at h
   rcases List.mem_append.1 h with h | h
   ·exact hno _ h
   ·rcases List.mem_cons.1 h with h | h
    ·exact hii h
    ·cases h
  ·exact hno _ h
 ·rw [List.map_append,hmapP P (fun _ h=>h),hmapQ Q (fun _ h=>h),h1.sl,h2.sl,List.length_append,nxS_add,h1.fl]
 ·rw [linked_fl hL,h2.fl,h1.fl,List.length_append,nxN_add]
 ·rw [hL.free] at hk
  have h3:=h2.fr k hk
  have h4:S2.at k=none:=by unfold Tr.at;rw [h3];rfl
  have h5:S3.at k=none:=by rw [hL.at_,h4];rfl
  have h6:k < S3.slots.length:=by rw [hL.len];exact(List.getElem?_eq_some_iff.1 h3).1
  unfold Tr.at at h5
  rw [List.getElem?_eq_getElem h6] at h5 ⊢
  generalize S3.slots[k]=y at h5 ⊢
  cases y with
  | none=>rfl
  | some n=>cases h5
 ·rw [hL.free];exact h2.frnd
section
variable {S : Tr} {K : Nat → List Nat} {d : Nat → Nat}
theorem Lk.wlk_kid (h:Lk S K d):∀(f i x:Nat),128 - d i≤f→x∈wlk K f i→∀k∈K x,k∈wlk K f i
 | 0,i,x,hf,hx,k,hk=>by
  simp [wlk] at hx;subst hx
  have:=h.dep x k hk
  have:=h.low k
  omega
 | f+1,i,x,hf,hx,k,hk=>by
  rw [wlk,List.mem_cons] at hx ⊢
  right
  rcases hx with rfl | hx
  ·exact List.mem_flatMap.2 ⟨k,hk,by cases f <;> simp [wlk]⟩
  ·obtain⟨q,hq,hx⟩:=List.mem_flatMap.1 hx
   have:=h.dep i q hq
   exact List.mem_flatMap.2 ⟨q,hq,h.wlk_kid f q x (by omega) hx k hk⟩
theorem wlk_par (K:Nat→List Nat):∀(f i x:Nat),x∈wlk K f i→x≠i→∃z∈wlk K f i,x∈K z
 | 0,i,x,hx,hne=>by simp [wlk] at hx;exact absurd hx hne
 | f+1,i,x,hx,hne=>by
  rw [wlk,List.mem_cons] at hx
  rcases hx with rfl | hx
  ·exact absurd rfl hne
  ·obtain⟨q,hq,hx⟩:=List.mem_flatMap.1 hx
   by_cases e:x=q
   ·subst e
    exact⟨i,by simp [wlk],hq⟩
   ·obtain⟨z,hz,h⟩:=wlk_par K f q x hx e
    exact⟨z,by rw [wlk];exact List.mem_cons_of_mem _ (List.mem_flatMap.2 ⟨q,hq,hz⟩),h⟩
theorem wlk_same {K K1:Nat→List Nat}:∀(f i:Nat),(∀x∈wlk K f i,K1 x=K x)→wlk K1 f i=wlk K f i
 | 0,_,_=>rfl
 | f+1,i,h=>by
  rw [wlk,wlk,h i (by simp [wlk])]
  congr 1
  have:∀l:List Nat,(∀k∈l,k∈K i)→l.flatMap (wlk K1 f)=l.flatMap (wlk K f):=by
   intro l
   induction l with
   | nil=>intro _;rfl
   | cons k l ih =>
    intro hl
    rw [List.flatMap_cons,List.flatMap_cons,ih (fun z hz=>hl z (by simp [hz])),wlk_same f k (fun x hx=>h x (by
     rw [wlk];exact List.mem_cons_of_mem _ (List.mem_flatMap.2 ⟨k,hl k (by simp),hx⟩)))]
  exact this (K i) (fun _ h=>h)
end
def kJ (K:Nat→List Nat)(i j:Nat)(x:Nat):List Nat:=if x=i then(K i).take j else K x
def pJ (K:Nat→List Nat)(f i j:Nat):List Nat:=i :: ((K i).take j).flatMap (wlk K f)
theorem kJ_all {S:Tr}{K:Nat→List Nat}{d:Nat→Nat}{S' K' d' i P r}(h:CpD S K d S' K' d' i (kJ K i (K i).length) P r):CpD S K d S' K' d' i K P r:=by
 have e:kJ K i (K i).length=K:=by
  funext x;unfold kJ;split
  ·rename_i e;rw [e,List.take_length]
  ·rfl
 rw [e] at h
 exact h
theorem pJ_succ {K:Nat→List Nat}{f i j q:Nat}(h:(K i)[j]? = some q):pJ K f i (j+1)=pJ K f i j ++ wlk K f q:=by
 unfold pJ;rw [flatMap_take_succ h,List.cons_append]
theorem cps_next {S S1 S2:Tr}{K K1 K2:Nat→List Nat}{d d1 d2:Nat→Nat}{f i j q:Nat}{r r2:Nat→Nat}(L:Lk S K d)(his:(S.at i).isSome=true)(hf:128 - d i=f+1)(hj:(K i)[j]? = some q)
  (h1:CpD S K d S1 K1 d1 i (kJ K i j) (pJ K f i j) r)(h2:CpD S1 K1 d1 S2 K2 d2 q K1 (wlk K1 f q) r2) :
  ∃d3 r3,r3 i=r i∧∀S3,Linked S2 S3 (K2 (r i)) (r i) (K2 (r i)).length (r2 q)→CpD S K d S3 (linkK K2 (r i) (K2 (r i)).length (r2 q)) d3 i (kJ K i (j+1)) (pJ K f i (j+1)) r3:=by
 have hq:=List.mem_of_getElem? hj
 have hqs:=(L.kin i q hq).2
 have hdq:=L.dep i q hq
 have hQd:∀x∈wlk K f q,(S.at x).isSome=true:=fun x hx=>(wlk_sub L f q x hqs hx).2
 have hK1:∀x∈wlk K f q,K1 x=K x:=fun x hx=>(h1.old x (hQd x hx)).2.1
 have hw:wlk K1 f q=wlk K f q:=wlk_same f q hK1
 rw [hw] at h2
 have hnd:(wlk K (f+1) i).Nodup:=wlk_nodup L (f+1) i his
 have hsplit:K i=(K i).take j ++ q :: (K i).drop (j+1):=by
  have hl:=(List.getElem?_eq_some_iff.1 hj).1
  have:(K i).drop j=q :: (K i).drop (j+1):=by
   rw [List.drop_eq_getElem_cons hl]
   congr 1
   exact(List.getElem?_eq_some_iff.1 hj).2
  rw [← this,List.take_append_drop]
 have hPQ:∀x∈pJ K f i j,x∉wlk K f q:=fun x hx hxq=>by
  rw [wlk,hsplit,List.flatMap_append,List.flatMap_cons,← List.cons_append,List.nodup_append] at hnd
  exact hnd.2.2 x hx x (List.mem_append_left _ hxq) rfl
 have hiQ:i∉wlk K f q:=hPQ i (by simp [pJ])
 obtain⟨r3,hr3⟩:∃r3:Nat→Nat,∀x,r3 x=if x∈wlk K f q then r2 x else r x:=⟨fun x=>if x∈wlk K f q then r2 x else r x,fun _=>rfl⟩
 have h2':CpD S1 K1 d1 S2 K2 d2 q K (wlk K f q) r2:={ h2 with kn:=fun x hx=>by rw [h2.kn x hx,hK1 x hx] }
 have k1:∀x∈pJ K f i j,∀k∈kJ K i j x,k∈pJ K f i j:=fun x hx k hk=>by
  unfold kJ at hk
  unfold pJ at hx ⊢
  rw [List.mem_cons]
  split at hk
  ·exact .inr (List.mem_flatMap.2 ⟨k,hk,by cases f <;> simp [wlk]⟩)
  ·rename_i e
   rcases List.mem_cons.1 hx with hx | hx
   ·exact absurd hx e
   ·obtain⟨z,hz,hx⟩:=List.mem_flatMap.1 hx
    have:=L.dep i z (List.mem_of_mem_take hz)
    exact .inr (List.mem_flatMap.2 ⟨z,hz,L.wlk_kid f z x (by omega) hx k hk⟩)
 have k2:kJ K i (j+1) i=kJ K i j i ++ [q]:=by
  unfold kJ
  rw [if_pos rfl,if_pos rfl,List.take_add_one,hj];rfl
 have k3:∀x,x≠i→kJ K i (j+1) x=kJ K i j x:=fun x hx=>by
  unfold kJ;rw [if_neg hx,if_neg hx]
 have k4:∀x∈wlk K f q,kJ K i j x=K x:=fun x hx=>by
  have hxi:x≠i:=fun e=>hiQ (e ▸ hx)
  unfold kJ;rw [if_neg hxi]
 obtain⟨d3,h3⟩:=cps_step (KJ':=kJ K i (j+1)) (r3:=r3) L h1 h2' (by simp [pJ]) (by cases f <;> simp [wlk]) hq k1 (fun x hx k hk=>L.wlk_kid f q x (by omega) hx k hk) (wlk_par K f q) hPQ hQd k2 k3 k4 (fun x hx=>by rw [hr3,if_neg (hPQ x hx)]) (fun x hx=>by rw [hr3,if_pos hx])
 exact⟨d3,r3,by rw [hr3,if_neg hiQ],fun S3 hL=>by rw [pJ_succ hj];exact h3 S3 hL⟩
theorem pJ_zero (K:Nat→List Nat)(f i:Nat):pJ K f i 0=[i]:=by unfold pJ;simp
theorem pJ_full (K:Nat→List Nat)(f i:Nat):pJ K f i (K i).length=wlk K (f+1) i:=by unfold pJ;rw [List.take_length];rfl
theorem pJ_le (K:Nat→List Nat)(f i j:Nat):(pJ K f i j).length≤(pJ K f i (K i).length).length:=by
 unfold pJ
 rw [List.take_length]
 have:(K i).flatMap (wlk K f)=((K i).take j).flatMap (wlk K f) ++ ((K i).drop j).flatMap (wlk K f):=by
  rw [← List.flatMap_append,List.take_append_drop]
 rw [this,List.length_cons,List.length_cons,List.length_append]
 exact Nat.succ_le_succ (Nat.le_add_right _ _)
theorem etA:ET Tryz.prog 79 92 2 32:=ET.mk' (z:=.agg #[.string ⟨#[]⟩,.string ⟨#[]⟩]) Tryz.underlying79 (by kernel_rfl) rfl (by omega)
def MOut (Q g cap:Nat)(X:List MX)(w:World)(R:List MN→List Rc→Int→Prop)(e:Ending)(w':World):Prop :=
 ∃X' v rs en,R (ms X') rs en∧e=.returned (.tuple #[v,.int .i64 en])∧w'.ownsRow w.heap.size 144 11 v rs.length (rows encR rs) ∧
  MdOut Q (.slice (some ⟨g,0,none⟩) X.length cap) X w (.slice (some ⟨g,0,none⟩) X'.length cap) X' w'
theorem own_base' {w:World}{B e size n:Nat}{v:Value}{xs:List Value}(h:Own w e size v n xs)(hb:∀k,v.ownBlock=some k→B≤k):w.ownsRow B e size v n xs:=by
 obtain⟨h1,h2⟩:=h
 refine⟨h1,h2.imp id ?_⟩
 rintro⟨g,cap,cur,rfl,_,rest⟩
 exact⟨g,cap,cur,rfl,hb g rfl,rest⟩
theorem rm_new (w:World)(r:Rc){B:Nat}(hB:B≤w.heap.size):(w.alloc (.cells (encR r).toArray 144)).ownsRow B 144 11 (.slice (some ⟨w.heap.size,0,none⟩) 1 1) [r].length (rows encR [r]):=by
 refine own_base' ?_ (fun k hk=>by cases hk;exact hB)
 have:=own_at (n:=1) (size:=11) (Blk.new w (encR r) 144) rfl (by omega)
 simpa [rows] using this
theorem md_ty {Q:Nat}{nv:Value}{X:List MX}{w:World}(h:MdAt Q nv X w){k:Nat}(hk:mdF Q nv X k):∃cur t,w.heap[k]? = some (.cells cur t (0,0))∧t≠144∧t≠41:=by
 rcases hk with rfl | hk | ⟨x,hx,hk | hk⟩
 ·exact⟨_,_,h.W.blk,by decide,by decide⟩
 ·obtain⟨cur,hc⟩:=own_blk h.W.row hk;exact⟨cur,_,hc,by decide,by decide⟩
 ·obtain⟨cur,hc⟩:=own_blk (h.W.att x hx) hk;exact⟨cur,_,hc,by decide,by decide⟩
 ·obtain⟨cur,hc⟩:=own_blk (h.W.kid x hx) hk;exact⟨cur,_,hc,by decide,by decide⟩
theorem X_get {X:List MX}{i:Nat}{x x':MX}(hi:X[i]? = some x)(k:Nat)(y:MX)(hk:(X.set i x')[k]? = some y):(k=i∧y=x')∨(k≠i∧X[k]? = some y):=by
 have hil:=(List.getElem?_eq_some_iff.1 hi).1
 rw [List.getElem?_set] at hk
 by_cases e:i=k
 ·subst e;rw [if_pos rfl,if_pos hil] at hk;cases hk;exact .inl ⟨rfl,rfl⟩
 ·rw [if_neg e] at hk;exact .inr ⟨fun e2=>e e2.symm,hk⟩
theorem MdAt.putA {Q g cap i:Nat}{X:List MX}{w w5:World}{x:MX}(h:MdAt Q (.slice (some ⟨g,0,none⟩) X.length cap) X w)(hi:X[i]? = some x)(hc:Chg (fun k=>x.av.ownBlock=some k) w w5)(v:Value)(al:List Atr)(ho:Own w5 92 2 v al.length (attrC al))
  (hv:v.ownBlock=x.av.ownBlock∨∀b,v.ownBlock=some b→w.heap.size≤b) :
  MdOut Q (.slice (some ⟨g,0,none⟩) X.length cap) X w (.slice (some ⟨g,0,none⟩) (X.set i { x with av:=v,m:={ x.m with attrs:=al } }).length cap) (X.set i { x with av:=v,m:={ x.m with attrs:=al } }) (w5.setCell ⟨g,i*7+2,none⟩ v):=by
 have hil:=(List.getElem?_eq_some_iff.1 hi).1
 have hmi:=List.mem_of_getElem? hi
 obtain⟨cg,hg⟩:=own_blk h.W.row (b:=g) rfl
 have hgl:=lt_of_block hg
 have hxa:∀b,x.av.ownBlock=some b→∃cur,w.heap[b]? = some (.cells cur 92 (0,0)):=fun b hb=>own_blk (h.W.att x hmi) hb
 have hgx:x.av.ownBlock≠some g:=fun e=>by
  obtain⟨cur,hcur⟩:=hxa g e
  rw [hg] at hcur;cases hcur
 have hg5:w5.heap[g]? = w.heap[g]?:=hc.block g hgl hgx
 -- what lies in other blocks stays
 have oth:∀{e size n:Nat} {v:Value} {xs:List Value},Own w e size v n xs→e≠81→(∀b,v.ownBlock=some b→x.av.ownBlock≠some b)→Own (w5.setCell ⟨g,i*7+2,none⟩ ‹Value›) e size v n xs:=by
  intro e size n v xs ho hne hx
  refine own_kept ho (fun b hb=>?_)
  obtain⟨cur,hcur⟩:=own_blk ho hb
  refine(Below.heap_setCell _ _ _ _ (fun e2=>?_)).trans (hc.block b (lt_of_block hcur) (hx b hb))
  rw [show b=g from e2,hg] at hcur
  cases hcur
  exact hne rfl
 have hAv:∀b,v.ownBlock=some b→b≠g:=fun b hb e=>by
  subst e
  rcases hv with e | e
  ·exact hgx (e ▸ hb)
  ·have:=e _ hb;omega
 have hov:Own (w5.setCell ⟨g,i*7+2,none⟩ v) 92 2 v al.length (attrC al):=own_kept ho (fun b hb=>Below.heap_setCell _ _ _ _ (hAv b hb))
 have hmem:∀y∈X.set i { x with av:=v,m:={ x.m with attrs:=al } },y={ x with av:=v,m:={ x.m with attrs:=al } }∨∃k,k≠i∧X[k]? = some y:=fun y hy=>by
  obtain⟨k,hk⟩:=List.mem_iff_getElem?.1 hy
  rcases X_get hi k y hk with ⟨_,e⟩ | ⟨e,e2⟩
  ·exact .inl e
  ·exact .inr ⟨k,e,e2⟩
 have hneK:∀y∈X,∀b,y.kv.ownBlock=some b→x.av.ownBlock≠some b:=fun y hy b hb e=>by
  obtain⟨c1,h1⟩:=hxa b e
  obtain⟨c2,h2⟩:=own_blk (h.W.kid y hy) hb
  rw [h1] at h2;cases h2
 refine⟨⟨⟨?_,?_,?_,?_⟩,?_,?_⟩,?_,?_⟩
 ·have hQ:=h.W.blk
  rw [List.length_set]
  refine hQ.kept ((Below.heap_setCell _ _ _ _ (fun e=>?_)).trans (hc.block Q hQ.lt (fun e=>?_)))
  ·have e2:w.heap[Q]? = _:=hQ
   rw [show Q=g from e,hg] at e2;cases e2
  ·obtain⟨cur,hcur⟩:=hxa Q e
   have e2:w.heap[Q]? = _:=hQ
   rw [hcur] at e2;cases e2
 ·rw [List.length_set,rows_field mxC_len X i 2 x { x with av:=v,m:={ x.m with attrs:=al } } v hi (by omega) rfl]
  have h5:Own w5 81 7 (.slice (some ⟨g,0,none⟩) X.length cap) X.length (rows mxC X):=own_kept h.W.row (fun b hb=>by cases hb;exact hg5)
  exact own_set h5 (i*7+2) v
 ·intro y hy
  rcases hmem y hy with rfl | ⟨k,hk,hy⟩
  ·exact hov
  ·have hym:=List.mem_of_getElem? hy
   have hoy:=h.W.att y hym
   refine own_kept hoy (fun b hb=>?_)
   obtain⟨cur,hcur⟩:=own_blk hoy hb
   refine(Below.heap_setCell _ _ _ _ (fun e2=>?_)).trans (hc.block b (lt_of_block hcur) (fun e2=>h.apA i k x y b (fun e=>hk e.symm) hi hy e2 hb))
   rw [show b=g from e2,hg] at hcur
   cases hcur
 ·intro y hy
  have hk':∃z∈X,y.kv=z.kv∧y.m.kids=z.m.kids:=by
   rcases hmem y hy with rfl | ⟨k,hk,hy⟩
   ·exact⟨x,hmi,rfl,rfl⟩
   ·exact⟨y,List.mem_of_getElem? hy,rfl,rfl⟩
  obtain⟨z,hz,e1,e2⟩:=hk'
  rw [e1,e2]
  have hoz:=h.W.kid z hz
  refine own_kept hoz (fun b hb=>?_)
  obtain⟨cur,hcur⟩:=own_blk hoz hb
  refine(Below.heap_setCell _ _ _ _ (fun e3=>?_)).trans (hc.block b (lt_of_block hcur) (hneK z hz b hb))
  rw [show b=g from e3,hg] at hcur
  cases hcur
 ·intro a c p q b hac hp hq hb
  have fresh:∀y∈X,∀b,y.av.ownBlock=some b→b < w.heap.size:=fun y hy b hb=>own_lt (h.W.att y hy) hb
  rcases X_get hi a p hp with ⟨rfl,rfl⟩ | ⟨e1,hp'⟩
  ·rcases X_get hi c q hq with ⟨e2,_⟩ | ⟨e2,hq⟩
   ·exact absurd e2.symm hac
   ·intro e3
    have hb':v.ownBlock=some b:=hb
    rcases hv with e | e
    ·rw [e] at hb';exact h.apA a c x q b hac hi hq hb' e3
    ·have:=e b hb';have:=fresh q (List.mem_of_getElem? hq) b e3;omega
  ·rcases X_get hi c q hq with ⟨rfl,rfl⟩ | ⟨e2,hq⟩
   ·intro e3
    have hb':v.ownBlock=some b:=e3
    rcases hv with e | e
    ·rw [e] at hb';exact h.apA a c p x b hac hp' hi hb hb'
    ·have:=e b hb';have:=fresh p (List.mem_of_getElem? hp') b hb;omega
   ·exact h.apA a c p q b hac hp' hq hb
 ·intro a c p q b hac hp hq hb
  have back:∀(k:Nat) (y:MX),(X.set i { x with av:=v,m:={ x.m with attrs:=al } })[k]? = some y→∃z,X[k]? = some z∧y.kv=z.kv:=fun k y hk=>by
   rcases X_get hi k y hk with ⟨rfl,rfl⟩ | ⟨_,e⟩
   ·exact⟨x,hi,rfl⟩
   ·exact⟨y,e,rfl⟩
  obtain⟨z1,h1,e1⟩:=back a p hp
  obtain⟨z2,h2,e2⟩:=back c q hq
  rw [e2]
  exact h.apK a c z1 z2 b hac h1 h2 (e1 ▸ hb)
 ·exact(hc.mono (G:=mdF Q (.slice (some ⟨g,0,none⟩) X.length cap) X) (fun k _ e=>.inr (.inr ⟨x,hmi,.inl e⟩))).setCell ⟨g,i*7+2,none⟩ (fun _=>.inr (.inl rfl)) v
 ·intro k hk
  rcases hk with rfl | hk | ⟨y,hy,hk⟩
  ·exact .inl (.inl rfl)
  ·exact .inl (.inr (.inl hk))
  ·rcases hmem y hy with rfl | ⟨k',_,hy⟩
   ·rcases hk with hk | hk
    ·have hk':v.ownBlock=some k:=hk
     rcases hv with e | e
     ·exact .inl (.inr (.inr ⟨x,hmi,.inl (e ▸ hk')⟩))
     ·exact .inr (e k hk')
    ·exact .inl (.inr (.inr ⟨x,hmi,.inr hk⟩))
   ·exact .inl (.inr (.inr ⟨y,List.mem_of_getElem? hy,hk⟩))
theorem MdAt.setV {Q g cap i ga ca k:Nat}{X:List MX}{w:World}{x:MX}{y:Atr}(h:MdAt Q (.slice (some ⟨g,0,none⟩) X.length cap) X w)(hi:X[i]? = some x)(hav:x.av=.slice (some ⟨ga,0,none⟩) x.m.attrs.length ca)(hy:x.m.attrs[k]? = some y)(val:List UInt8) :
  MdOut Q (.slice (some ⟨g,0,none⟩) X.length cap) X w (.slice (some ⟨g,0,none⟩) (X.set i { x with m:={ x.m with attrs:=x.m.attrs.set k (y.1,val) } }).length cap) (X.set i { x with m:={ x.m with attrs:=x.m.attrs.set k (y.1,val) } }) (w.setCell ⟨ga,k*2+1,none⟩ (strV val)):=by
 have hil:=(List.getElem?_eq_some_iff.1 hi).1
 have hmi:=List.mem_of_getElem? hi
 have hxo:=h.W.att x hmi
 obtain⟨cga,hga⟩:=own_blk hxo (b:=ga) (by rw [hav];rfl)
 have hmxC:mxC { x with m:={ x.m with attrs:=x.m.attrs.set k (y.1,val) } }=mxC x:=rfl
 have hrows:rows mxC (X.set i { x with m:={ x.m with attrs:=x.m.attrs.set k (y.1,val) } })=rows mxC X:=by
  have:=rows_field mxC_len X i 0 x { x with m:={ x.m with attrs:=x.m.attrs.set k (y.1,val) } } (.int .i64 x.m.kind) hi (by omega) rfl
  rw [this]
  have h1:=rows_at mxC_len X i x hi 0 (by omega)
  apply List.ext_getElem?
  intro n
  rw [List.getElem?_set]
  split
  ·rename_i e
   subst e
   split
   ·rw [h1];rfl
   ·rename_i h2;rw [List.getElem?_eq_none (by omega)]
  ·rfl
 have hmem:∀z∈X.set i { x with m:={ x.m with attrs:=x.m.attrs.set k (y.1,val) } },z={ x with m:={ x.m with attrs:=x.m.attrs.set k (y.1,val) } }∨∃k,k≠i∧X[k]? = some z:=fun z hz=>by
  obtain⟨k,hk⟩:=List.mem_iff_getElem?.1 hz
  rcases X_get hi k z hk with ⟨_,e⟩ | ⟨e,e2⟩
  ·exact .inl e
  ·exact .inr ⟨k,e,e2⟩
 have back:∀(k':Nat) (z:MX),(X.set i { x with m:={ x.m with attrs:=x.m.attrs.set k (y.1,val) } })[k']? = some z→∃z0,X[k']? = some z0∧z.kv=z0.kv∧z.av=z0.av∧z.m.kids=z0.m.kids:=fun k' z hk=>by
  rcases X_get hi k' z hk with ⟨rfl,rfl⟩ | ⟨_,e⟩
  ·exact⟨x,hi,rfl,rfl,rfl⟩
  ·exact⟨z,e,rfl,rfl,rfl⟩
 have oth:∀{e size n:Nat} {v:Value} {xs:List Value},Own w e size v n xs→e≠92→Own (w.setCell ⟨ga,k*2+1,none⟩ (strV val)) e size v n xs:=fun {e size n v xs} ho hne=>own_kept ho (fun b hb=>by
  refine Below.heap_setCell _ _ _ _ (fun e2=>?_)
  obtain⟨cur,hcur⟩:=own_blk ho hb
  rw [show b=ga from e2,hga] at hcur
  cases hcur
  exact hne rfl)
 refine⟨⟨⟨?_,?_,?_,?_⟩,?_,?_⟩,?_,?_⟩
 ·rw [List.length_set]
  refine h.W.blk.setOther ⟨ga,k*2+1,none⟩ (fun e=>?_) _
  have e2:w.heap[Q]? = _:=h.W.blk
  rw [show Q=ga from e,hga] at e2
  cases e2
 ·rw [List.length_set,hrows]
  exact oth h.W.row (by decide)
 ·intro z hz
  rcases hmem z hz with rfl | ⟨k',hk,hz⟩
  ·show Own _ _ _ x.av (x.m.attrs.set k (y.1,val)).length (attrC (x.m.attrs.set k (y.1,val)))
   rw [List.length_set,attrC_set _ _ _ hy,hav,show k*2+1=2*k+1 by omega]
   rw [hav] at hxo
   exact own_set hxo (2*k+1) (strV val)
  ·have hoz:=h.W.att z (List.mem_of_getElem? hz)
   exact own_kept hoz (fun b hb=>Below.heap_setCell _ _ _ _ (fun e2=>h.apA i k' x z b (fun e=>hk e.symm) hi hz (by rw [hav,show b=ga from e2];rfl) hb))
 ·intro z hz
  obtain⟨k',hk⟩:=List.mem_iff_getElem?.1 hz
  obtain⟨z0,h1,e1,e2,e3⟩:=back k' z hk
  rw [e1,e3]
  exact oth (h.W.kid z0 (List.mem_of_getElem? h1)) (by decide)
 ·intro a c p q b hac hp hq hb
  obtain⟨z1,h1,_,e1,_⟩:=back a p hp
  obtain⟨z2,h2,_,e2,_⟩:=back c q hq
  rw [e2]
  exact h.apA a c z1 z2 b hac h1 h2 (e1 ▸ hb)
 ·intro a c p q b hac hp hq hb
  obtain⟨z1,h1,e1,_,_⟩:=back a p hp
  obtain⟨z2,h2,e2,_,_⟩:=back c q hq
  rw [e2]
  exact h.apK a c z1 z2 b hac h1 h2 (e1 ▸ hb)
 ·exact(Chg.refl _ w).setCell ⟨ga,k*2+1,none⟩ (fun _=>.inr (.inr ⟨x,hmi,.inl (by rw [hav];rfl)⟩)) _
 ·intro b hb
  rcases hb with rfl | hb | ⟨z,hz,hb⟩
  ·exact .inl (.inl rfl)
  ·exact .inl (.inr (.inl hb))
  ·obtain⟨k',hk⟩:=List.mem_iff_getElem?.1 hz
   obtain⟨z0,h1,e1,e2,_⟩:=back k' z hk
   exact .inl (.inr (.inr ⟨z0,List.mem_of_getElem? h1,by rw [← e1,← e2];exact hb⟩))
theorem MdAt.putF {Q g cap i:Nat}{X:List MX}{w:World}{x:MX}(h:MdAt Q (.slice (some ⟨g,0,none⟩) X.length cap) X w)(hi:X[i]? = some x)(m:MN)(j:Nat)(u:Value)(hj:j < 7)(hx:mxC { x with m:=m }=(mxC x).set j u)(ha:m.attrs=x.m.attrs)(hk:m.kids=x.m.kids) :
  MdOut Q (.slice (some ⟨g,0,none⟩) X.length cap) X w (.slice (some ⟨g,0,none⟩) (X.set i { x with m:=m }).length cap) (X.set i { x with m:=m }) (w.setCell ⟨g,i*7+j,none⟩ u):=by
 have hm:=List.mem_of_getElem? hi
 have hat:=h.put hi { x with m:=m } u hj (j:=j) hx (by rw [ha];exact h.W.att x hm) (by rw [hk];exact h.W.kid x hm) (.inl rfl) (.inl rfl)
 refine⟨by rw [List.length_set];exact hat,(Chg.refl _ w).setCell ⟨g,i*7+j,none⟩ (fun _=>.inr (.inl rfl)) _,fun k hk'=>?_⟩
 rcases hk' with rfl | hk' | ⟨y,hy,hk'⟩
 ·exact .inl (.inl rfl)
 ·exact .inl (.inr (.inl hk'))
 ·rcases List.mem_or_eq_of_mem_set hy with hy | rfl
  ·exact .inl (.inr (.inr ⟨y,hy,hk'⟩))
  ·exact .inl (.inr (.inr ⟨x,hm,hk'⟩))
end Go.Proofs.YtfelmdkeaacfeaaGreatDoor.W
end
