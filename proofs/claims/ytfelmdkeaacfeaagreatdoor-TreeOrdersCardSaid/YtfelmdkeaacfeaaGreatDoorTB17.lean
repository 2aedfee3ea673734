/- Texts joined: TcpP Mob Mrem. -/
import Derived.Test.YtfelmdkeaacfeaaGreatDoorTB1
import Derived.Test.YtfelmdkeaacfeaaGreatDoorTB16
import Derived.Test.YtfelmdkeaacfeaaGreatDoorTB15
import Derived.Test.YtfelmdkeaacfeaaGreatDoorTB13
import Derived.Deep.RegionLaw
import Derived.Deep.RegionHeld3
set_option maxRecDepth 100000
set_option maxHeartbeats 40000000
set_option linter.unusedVariables false
set_option linter.unusedSimpArgs false
section
namespace Go.Proofs.YtfelmdkeaacfeaaGreatDoor.W
open Go.RowKit
def Iz (st:List Nat×Nat):List Nat×Nat:=if st.1=[] then([],st.2+1) else(st.1.dropLast,st.2)
def VX (st:List Nat×Nat):Nat:=(st.1.getLast?).getD st.2
def Jf:Nat→List Nat×Nat→List Nat
 | 0,_=>[]
 | n+1,st=>VX st :: Jf n (Iz st)
def EI:Nat→List Nat×Nat→List Nat×Nat
 | 0,st=>st
 | n+1,st=>EI n (Iz st)
theorem MP:∀(a b:Nat) (st:List Nat×Nat),EI (a+b) st=EI b (EI a st)
 | 0,b,st=>by rw [aJ];rfl
 | a+1,b,st=>by rw [show a+1+b=(a+b)+1 by omega];exact MP a b (Iz st)
theorem MO:∀(a b:Nat) (st:List Nat×Nat),Jf (a+b) st=Jf a st ++ Jf b (EI a st)
 | 0,b,st=>by rw [aJ];rfl
 | a+1,b,st=>by rw [show a+1+b=(a+b)+1 by omega];show VX st :: Jf (a+b) (Iz st)=_;rw [MO a b (Iz st)];rfl
theorem G5:∀(n:Nat) (st:List Nat×Nat),(Jf n st).length=n
 | 0,_=>rfl
 | n+1,st=>by rw [Jf,List.length_cons,G5]
theorem CQ:∀(n:Nat) (st:List Nat×Nat),st.2≤(EI n st).2∧(EI n st).2≤st.2+n∧(EI n st).1.length≤st.1.length
 | 0,st=>⟨au _,au _,au _⟩
 | n+1,st=>by
  obtain⟨h1,h2,h3⟩:=CQ n (Iz st)
  have h4:(Iz st).2≤st.2+1∧st.2≤(Iz st).2:=by unfold Iz;split <;> simp
  have h5:(Iz st).1.length≤st.1.length:=by
   unfold Iz;split
   ·simp
   ·simp
  show _≤(EI n (Iz st)).2∧(EI n (Iz st)).2≤_∧(EI n (Iz st)).1.length≤_
  omega
def Tr.fl (S:Tr):List Nat×Nat:=(S.free,S.slots.length)
theorem QU (S:Tr)(n:Nd):(S.add n).fl=Iz S.fl:=by
 unfold Tr.add Tr.fl Iz
 cases e:S.free.getLast? with
 | none =>
  have e':S.free=[]:=by simpa using e
  simp [Tr.snoc,e']
 | some i =>
  have e':S.free≠[]:=fun h=>by rw [h] at e;cases e
  simp [e']
theorem AQ {S S':Tr}{l:List Nat}{p j c:Nat}(h:Linked S S' l p j c):S'.fl=S.fl:=by unfold Tr.fl;rw [h.free,h.len]
structure Cm (S:Tr) (K:Nat→List Nat) (d:Nat→Nat) (S':Tr) (K':Nat→List Nat) (d':Nat→Nat) (i:Nat) (KJ:Nat→List Nat) (P:List Nat) (r:Nat→Nat):Prop where
 eb:S'.b=S.b
 es:S'.s=S.s
 root:S'.root=S.root
 old:∀y,(S.at y).isSome=true→S'.at y=S.at y∧K' y=K y∧d' y=d y
 new:∀x∈P,S.at (r x)=none∧∃n n',S.at x=some n∧S'.at (r x)=some n'∧n'.kind=n.kind∧n'.name=n.name∧n'.attrs=n.attrs∧n'.data=n.data
 Vl:∀y,(S'.at y).isSome=true→(S.at y).isSome=true∨∃x∈P,y=r x
 kn:∀x∈P,K' (r x)=(KJ x).map r
 inj:∀x∈P,∀y∈P,r x=r y→x=y
 dn:∀x∈P,d' (r x)+d i=d x+1
 lk:Lk S' K' d'
 top:∀q,r i∉K' q
 sl:P.map r=Jf P.length S.fl
 fl:S'.fl=EI P.length S.fl
 fr:∀k∈S'.free,S'.slots[k]? = some none
 rZ:S'.free.Nodup
theorem Cm.hd {S K d S' K' d' i KJ P r}(h:Cm S K d S' K' d' i KJ P r)(x:Nat):S'.hd x=S.hd x:=by unfold Tr.hd;rw [h.eb,h.es]
theorem Gj {S:Tr}{K:Nat→List Nat}{d:Nat→Nat}(hL:Lk S K d)(hf:∀i∈S.free,S.slots[i]? = some none)(hn:S.free.Nodup)(hl:S.slots.length < 1000000){i:Nat}{n n0:Nd}(hi:S.at i=some n)
  (h1:n0.kind=n.kind)(h2:n0.name=n.name)(h3:n0.attrs=n.attrs)(h4:n0.data=n.data)(z1:n0.parent=0)(z2:n0.first=0)(z3:n0.last=0)(z4:n0.prev=0)(z5:n0.next=0){KJ:Nat→List Nat}(hJ:KJ i=[]){r:Nat→Nat}(hr:r i=S.mV) :
  Cm S K d (S.add n0) K (EW d S.mV) i KJ [i] r:=by
 have k:=oL hf hn n0
 have hne:∀y,(S.at y).isSome=true→y≠S.mV:=fun y hy e=>by rw [e,k.no] at hy;cases hy
 refine⟨k.eb,k.es,k.root,fun y hy=>⟨by rw [k.at_,ax (hne y hy)],rfl,by unfold EW;rw [ax (hne y hy)]⟩,fun x hx=>?_,fun y hy=>?_,fun x hx=>?_,fun x hx y hy _=>?_,fun x hx=>?_,hL.added k z1 z2 z3 z4 z5 hl,fun q=>?_,?_,?_,fun j hj=>?_,k.rZ hn⟩
 ·simp only [eF] at hx;subst hx
  exact⟨by rw [hr];exact k.no,n,n0,hi,by rw [k.at_,hr,aC rfl],h1,h2,h3,h4⟩
 ·rw [k.at_] at hy
  by_cases e:y=S.mV
  ·exact .inr ⟨i,by simp,by rw [hr];exact e⟩
  ·rw [ax e] at hy;exact .inl hy
 ·simp only [eF] at hx;subst hx
  rw [hr,hJ,hL.wO k.no];rfl
 ·simp only [eF] at hx hy;rw [hx,hy]
 ·simp only [eF] at hx;subst hx
  unfold EW;rw [hr,aC rfl];omega
 ·rw [hr];exact hL.DT k.no q
 ·simp only [fE,jZ,hr,List.length_singleton];rfl
 ·exact QU S n0
 ·obtain⟨h6,h7⟩:=k.free j hj
  have:=hf j h6
  rw [k.slot j h7 (ai.1 this).1];exact this
theorem P9 (S:Tr){l:List Nat}{p c x:Nat}(n:Nd)(h1:x≠c)(h2:x≠p)(h3:x∉l):jI S l p l.length c x n=n:=by
 have e1:¬l[l.length]? = some x:=by simp
 have e2:¬pv l l.length=some x:=fun e=>by
  rw [tX] at e
  exact h3 (wB e)
 unfold jI
 simp only [h1,h2,e1,e2,iJ,uQ]
theorem QA {S S1 S2:Tr}{K K1 K2:Nat→List Nat}{d d1 d2:Nat→Nat}{i q:Nat}{KJ KJ':Nat→List Nat}{P Q:List Nat}{r r2 r3:Nat→Nat}(L:Lk S K d)(h1:Cm S K d S1 K1 d1 i KJ P r)(h2:Cm S1 K1 d1 S2 K2 d2 q K Q r2)
  (hiP:i∈P)(hqQ:q∈Q)(hq:q∈K i)(hPc:∀x∈P,∀k∈KJ x,k∈P)(hQc:∀x∈Q,∀k∈K x,k∈Q)(hQp:∀x∈Q,x≠q→∃z∈Q,x∈K z)(hPQ:∀x∈P,x∉Q)(hQd:∀x∈Q,(S.at x).isSome=true)
  (hJi:KJ' i=KJ i ++ [q])(hJo:∀x,x≠i→KJ' x=KJ x)(hJQ:∀x∈Q,KJ x=K x)(hr1:∀x∈P,r3 x=r x)(hr2:∀x∈Q,r3 x=r2 x) :
  ∃d3,∀S3,Linked S2 S3 (K2 (r i)) (r i) (K2 (r i)).length (r2 q)→Cm S K d S3 (jK K2 (r i) (K2 (r i)).length (r2 q)) d3 i KJ' (P ++ Q) r3:=by
 have hiq:i≠q:=fun e=>hPQ i hiP (e ▸ hqQ)
 have hdq:=L.qc i q hq
 -- where the copies stand
 have hP1:∀x∈P,(S1.at (r x)).isSome=true:=fun x hx=>by obtain⟨_,n,n',_,h,_⟩:=h1.new x hx;rw [h];rfl
 have hP2:∀x∈P,(S2.at (r x)).isSome=true:=fun x hx=>by rw [(h2.old _ (hP1 x hx)).1];exact hP1 x hx
 have hQ2:∀x∈Q,(S2.at (r2 x)).isSome=true:=fun x hx=>by obtain⟨_,n,n',_,h,_⟩:=h2.new x hx;rw [h];rfl
 have hQ1:∀x∈Q,S1.at (r2 x)=none:=fun x hx=>(h2.new x hx).1
 have hPQr:∀x∈P,∀y∈Q,r x≠r2 y:=fun x hx y hy e=>by
  have:=hP1 x hx
  rw [e,hQ1 y hy] at this;cases this
 have hSr:∀y,(S.at y).isSome=true→(∀x∈P,y≠r x)∧(∀x∈Q,y≠r2 x):=fun y hy=>by
  have hy1:(S1.at y).isSome=true:=by rw [(h1.old y hy).1];exact hy
  exact⟨fun x hx e=>(by rw [e,(h1.new x hx).1] at hy;cases hy),fun x hx e=>(by rw [e,hQ1 x hx] at hy1;cases hy1)⟩
 have hSat:∀y,(S.at y).isSome=true→S2.at y=S.at y∧K2 y=K y∧d2 y=d y:=fun y hy=>by
  obtain⟨a1,a2,a3⟩:=h1.old y hy
  obtain⟨b1,b2,b3⟩:=h2.old y (by rw [a1];exact hy)
  exact⟨b1.trans a1,b2.trans a2,b3.trans a3⟩
 -- the children in S2
 have kP:∀x∈P,K2 (r x)=(KJ x).map r:=fun x hx=>by rw [(h2.old _ (hP1 x hx)).2.1,h1.kn x hx]
 have kQ:∀x∈Q,K2 (r2 x)=(K x).map r2:=h2.kn
 have dP:∀x∈P,d2 (r x)+d i=d x+1:=fun x hx=>by rw [(h2.old _ (hP1 x hx)).2.2];exact h1.dn x hx
 have dQ:∀x∈Q,d2 (r2 x)+d1 q=d1 x+1:=h2.dn
 have dQ':∀x∈Q,d2 (r2 x)+d q=d x+1:=fun x hx=>by
  have:=dQ x hx
  rw [(h1.old q (hQd q hqQ)).2.2,(h1.old x (hQd x hx)).2.2] at this
  exact this
 have hii:r i≠r2 q:=hPQr i hiP q hqQ
 -- what lies in the copy of the child's subtree
 obtain⟨inQ,hinQ⟩:∃inQ:Nat→Prop,∀y,inQ y↔∃x∈Q,y=r2 x:=⟨fun y=>∃x∈Q,y=r2 x,fun y=>Iff.rfl⟩
 have hkin:∀y k,k∈K2 y→(inQ k↔inQ y):=fun y k hk=>by
  rw [hinQ,hinQ]
  constructor
  ·rintro⟨x,hx,rfl⟩
   by_cases e:x=q
   ·subst e;exact absurd hk (h2.top y)
   ·obtain⟨z,hz,hxz⟩:=hQp x hx e
    have:r2 x∈K2 (r2 z):=by rw [kQ z hz];exact bC.2 ⟨x,hxz,rfl⟩
    exact⟨z,hz,h2.lk.rD hk this⟩
  ·rintro⟨x,hx,rfl⟩
   rw [kQ x hx] at hk
   obtain⟨z,hz,rfl⟩:=bC.1 hk
   exact⟨z,hQc x hx z hz,rfl⟩
 have hnP:∀x∈P,¬inQ (r x):=fun x hx h=>by
  obtain⟨y,hy,e⟩:=(hinQ _).1 h
  exact hPQr x hx y hy e
 have hnS:∀y,(S.at y).isSome=true→¬inQ y:=fun y hy h=>by
  obtain⟨x,hx,e⟩:=(hinQ _).1 h
  exact(hSr y hy).2 x hx e
 have hyQ:∀x∈Q,inQ (r2 x):=fun x hx=>(hinQ _).2 ⟨x,hx,rfl⟩
 haveI:∀y,Decidable (inQ y):=fun y=>Classical.propDecidable _
 obtain⟨d3,hd3⟩:∃d3:Nat→Nat,∀y,d3 y=if inQ y then d2 y+1 else d2 y:=⟨fun y=>if inQ y then d2 y+1 else d2 y,fun _=>rfl⟩
 have hri2:d2 (r i)=1:=by have:=dP i hiP;omega
 obtain⟨nP,hnP2⟩:=aB.1 (hP2 i hiP)
 obtain⟨nQ,hnQ2⟩:=aB.1 (hQ2 q hqQ)
 refine⟨d3,fun S3 hL=>?_⟩
 have hhd:∀x,S3.hd x=S2.hd x:=hL.hd
 have L3:Lk S3 (jK K2 (r i) (K2 (r i)).length (r2 q)) d3:=by
  refine h2.lk.link hnP2 hnQ2 (au _) h2.top hii hL.at_ hL.len hhd ?_ (fun y k hk=>?_) ?_ (fun x=>?_) (fun x hx hxc hxp=>?_)
  ·rw [hd3,aC (hyQ q hqQ)]
   have:=dQ' q hqQ
   omega
  ·rw [hd3,hd3]
   have:=h2.lk.qc y k hk
   by_cases e:inQ y
   ·rw [aC ((hkin y k hk).2 e),aC e];omega
   ·rw [ax (fun h=>e ((hkin y k hk).1 h)),ax e];omega
  ·rw [hd3,ax (hnP i hiP)]
  ·rw [hd3]
   have:=h2.lk.low x
   split
   ·rename_i e
    obtain⟨z,hz,rfl⟩:=(hinQ _).1 e
    have:=dQ' z hz
    have:=L.low z
    have:=L.pos i (L.kin i q hq).1
    omega
   ·omega
  ·rw [hd3]
   have:¬inQ x:=fun h=>by
    obtain⟨z,hz,rfl⟩:=(hinQ _).1 h
    by_cases e:z=q
    ·exact hxc (by rw [e])
    ·obtain⟨y,hy,hzy⟩:=hQp z hz e
     exact hxp (r2 y) (by rw [kQ y hy];exact bC.2 ⟨z,hzy,rfl⟩)
   rw [ax this]
   exact h2.lk.one x hx hxp
 have hat3:∀y,(S.at y).isSome=true→S3.at y=S.at y:=fun y hy=>by
  rw [hL.at_,(hSat y hy).1]
  obtain⟨n,hn⟩:=aB.1 hy
  rw [hn]
  obtain⟨e1,e2⟩:=hSr y hy
  show some _=some _
  rw [P9 S2 n (e2 q hqQ) (e1 i hiP) (fun h=>by
   rw [kP i hiP] at h
   obtain⟨k,hk,e⟩:=bC.1 h
   exact e1 k (hPc i hiP k hk) e.symm)]
 have hmapP:∀l:List Nat,(∀k∈l,k∈P)→l.map r3=l.map r:=fun l hl=>fM fun k hk=>hr1 k (hl k hk)
 have hmapQ:∀l:List Nat,(∀k∈l,k∈Q)→l.map r3=l.map r2:=fun l hl=>fM fun k hk=>hr2 k (hl k hk)
 refine⟨hL.b.trans (h2.eb.trans h1.eb),hL.s.trans (h2.es.trans h1.es),hL.root.trans (h2.root.trans h1.root),fun y hy=>⟨hat3 y hy,?_,?_⟩,fun x hx=>?_,fun y hy=>?_,fun x hx=>?_,fun x hx y hy e=>?_,fun x hx=>?_,L3,fun y=>?_,?_,?_,fun k hk=>?_,?_⟩
 ·unfold jK
  rw [ax ((hSr y hy).1 i hiP)]
  exact(hSat y hy).2.1
 ·rw [hd3,ax (hnS y hy)];exact(hSat y hy).2.2
 ·rcases cZ.1 hx with hx | hx
  ·obtain⟨a1,n,n',a2,a3,a4,a5,a6,a7⟩:=h1.new x hx
   have a8:S2.at (r x)=some n':=by rw [(h2.old _ (hP1 x hx)).1];exact a3
   exact⟨by rw [hr1 x hx];exact a1,n,jI S2 (K2 (r i)) (r i) (K2 (r i)).length (r2 q) (r x) n',a2,by rw [hr1 x hx,hL.at_,a8];rfl,a4,a5,a6,a7⟩
  ·obtain⟨a1,n,n',a2,a3,a4,a5,a6,a7⟩:=h2.new x hx
   rw [(h1.old x (hQd x hx)).1] at a2
   refine⟨?_,n,jI S2 (K2 (r i)) (r i) (K2 (r i)).length (r2 q) (r2 x) n',a2,by rw [hr2 x hx,hL.at_,a3];rfl,a4,a5,a6,a7⟩
   rw [hr2 x hx]
   cases e:S.at (r2 x) with
   | none=>rfl
   | some m =>
    have:=(h1.old (r2 x) (by rw [e];rfl)).1
    rw [a1,e] at this;cases this
 ·rw [hL.at_,XE] at hy
  rcases h2.Vl y hy with h | ⟨x,hx,e⟩
  ·rcases h1.Vl y h with h | ⟨x,hx,e⟩
   ·exact .inl h
   ·exact .inr ⟨x,qj _ hx,by rw [hr1 x hx];exact e⟩
  ·exact .inr ⟨x,uV _ hx,by rw [hr2 x hx];exact e⟩
 ·unfold jK
  rcases cZ.1 hx with hx | hx
  ·rw [hr1 x hx]
   by_cases e:x=i
   ·subst e
    rw [aC rfl,dE,vw,kP x hx,hJi,ig,hmapP _ (hPc x hx)]
    simp [hr2 q hqQ]
   ·have:r x≠r i:=fun h=>e (h1.inj x hx i hiP h)
    rw [ax this,kP x hx,hJo x e,hmapP _ (hPc x hx)]
  ·have hne:r2 x≠r i:=fun h=>hPQr i hiP x hx h.symm
   have hxi:x≠i:=fun e=>hPQ i hiP (e ▸ hx)
   rw [hr2 x hx,ax hne,kQ x hx,hJo x hxi,hJQ x hx,hmapQ _ (hQc x hx)]
 ·rcases cZ.1 hx with hx | hx <;> rcases cZ.1 hy with hy | hy
  ·rw [hr1 x hx,hr1 y hy] at e;exact h1.inj x hx y hy e
  ·rw [hr1 x hx,hr2 y hy] at e;exact absurd e (hPQr x hx y hy)
  ·rw [hr2 x hx,hr1 y hy] at e;exact absurd e.symm (hPQr y hy x hx)
  ·rw [hr2 x hx,hr2 y hy] at e;exact h2.inj x hx y hy e
 ·rcases cZ.1 hx with hx | hx
  ·rw [hr1 x hx,hd3,ax (hnP x hx)];exact dP x hx
  ·rw [hr2 x hx,hd3,aC (hyQ x hx)]
   have:=dQ' x hx
   omega
 ·rw [hr1 i hiP]
  intro h
  unfold jK at h
  have hno:∀z,r i∉K2 z:=fun z hz=>by
   by_cases e:(S1.at z).isSome=true
   ·rw [(h2.old z e).2.1] at hz
    exact h1.top z hz
   ·have hz2:(S2.at z).isSome=true:=(h2.lk.kin z _ hz).1
    rcases h2.Vl z hz2 with h | ⟨x,hx,rfl⟩
    ·exact e h
    ·rw [kQ x hx] at hz
     obtain⟨k,hk,e2⟩:=bC.1 hz
     exact hPQr i hiP k (hQc x hx k hk) e2.symm
  split at h
  ·rw [dE,vw] at h
   rcases cZ.1 h with h | h
   ·exact hno _ h
   ·rcases bn.1 h with h | h
    ·exact hii h
    ·cases h
  ·exact hno _ h
 ·rw [ig,hmapP P (fun _ h=>h),hmapQ Q (fun _ h=>h),h1.sl,h2.sl,aA,MO,h1.fl]
 ·rw [AQ hL,h2.fl,h1.fl,aA,MP]
 ·rw [hL.free] at hk
  have h3:=h2.fr k hk
  have h4:S2.at k=none:=by unfold Tr.at;rw [h3];rfl
  have h5:S3.at k=none:=by rw [hL.at_,h4];rfl
  have h6:k < S3.slots.length:=by rw [hL.len];exact(ai.1 h3).1
  unfold Tr.at at h5
  rw [ay h6] at h5 ⊢
  generalize S3.slots[k]=y at h5 ⊢
  cases y with
  | none=>rfl
  | some n=>cases h5
 ·rw [hL.free];exact h2.rZ
section
variable {S : Tr} {K : Nat → List Nat} {d : Nat → Nat}
theorem Lk.wF (h:Lk S K d):∀(f i x:Nat),128 - d i≤f→x∈dR K f i→∀k∈K x,k∈dR K f i
 | 0,i,x,hf,hx,k,hk=>by
  simp [dR] at hx;subst hx
  have:=h.qc x k hk
  have:=h.low k
  omega
 | f+1,i,x,hf,hx,k,hk=>by
  rw [dR,bn] at hx ⊢
  right
  rcases hx with rfl | hx
  ·exact bT.2 ⟨k,hk,by cases f <;> simp [dR]⟩
  ·obtain⟨q,hq,hx⟩:=bT.1 hx
   have:=h.qc i q hq
   exact bT.2 ⟨q,hq,h.wF f q x (by omega) hx k hk⟩
theorem yP (K:Nat→List Nat):∀(f i x:Nat),x∈dR K f i→x≠i→∃z∈dR K f i,x∈K z
 | 0,i,x,hx,hne=>by simp [dR] at hx;exact absurd hx hne
 | f+1,i,x,hx,hne=>by
  rw [dR,bn] at hx
  rcases hx with rfl | hx
  ·exact absurd rfl hne
  ·obtain⟨q,hq,hx⟩:=bT.1 hx
   by_cases e:x=q
   ·subst e
    exact⟨i,by simp [dR],hq⟩
   ·obtain⟨z,hz,h⟩:=yP K f q x hx e
    exact⟨z,by rw [dR];exact gX _ (bT.2 ⟨q,hq,hz⟩),h⟩
theorem Df {K K1:Nat→List Nat}:∀(f i:Nat),(∀x∈dR K f i,K1 x=K x)→dR K1 f i=dR K f i
 | 0,_,_=>rfl
 | f+1,i,h=>by
  rw [dR,dR,h i (by simp [dR])]
  congr 1
  have:∀l:List Nat,(∀k∈l,k∈K i)→l.flatMap (dR K1 f)=l.flatMap (dR K f):=by
   intro l
   induction l with
   | nil=>intro _;rfl
   | cons k l ih =>
    intro hl
    rw [eG,eG,ih (fun z hz=>hl z (by simp [hz])),Df f k (fun x hx=>h x (by
     rw [dR];exact gX _ (bT.2 ⟨k,hl k (by simp),hx⟩)))]
  exact this (K i) (fun _ h=>h)
end
def kJ (K:Nat→List Nat)(i j:Nat)(x:Nat):List Nat:=if x=i then(K i).take j else K x
def pJ (K:Nat→List Nat)(f i j:Nat):List Nat:=i :: ((K i).take j).flatMap (dR K f)
theorem Um {S:Tr}{K:Nat→List Nat}{d:Nat→Nat}{S' K' d' i P r}(h:Cm S K d S' K' d' i (kJ K i (K i).length) P r):Cm S K d S' K' d' i K P r:=by
 have e:kJ K i (K i).length=K:=by
  funext x;unfold kJ;split
  ·rename_i e;rw [e,dE]
  ·rfl
 rw [e] at h
 exact h
theorem MJ {K:Nat→List Nat}{f i j q:Nat}(h:(K i)[j]? = some q):pJ K f i (j+1)=pJ K f i j ++ dR K f q:=by
 unfold pJ;rw [iU h,List.cons_append]
theorem QB {S S1 S2:Tr}{K K1 K2:Nat→List Nat}{d d1 d2:Nat→Nat}{f i j q:Nat}{r r2:Nat→Nat}(L:Lk S K d)(his:(S.at i).isSome=true)(hf:128 - d i=f+1)(hj:(K i)[j]? = some q)
  (h1:Cm S K d S1 K1 d1 i (kJ K i j) (pJ K f i j) r)(h2:Cm S1 K1 d1 S2 K2 d2 q K1 (dR K1 f q) r2) :
  ∃d3 r3,r3 i=r i∧∀S3,Linked S2 S3 (K2 (r i)) (r i) (K2 (r i)).length (r2 q)→Cm S K d S3 (jK K2 (r i) (K2 (r i)).length (r2 q)) d3 i (kJ K i (j+1)) (pJ K f i (j+1)) r3:=by
 have hq:=ah hj
 have hqs:=(L.kin i q hq).2
 have hdq:=L.qc i q hq
 have hQd:∀x∈dR K f q,(S.at x).isSome=true:=fun x hx=>(mF L f q x hqs hx).2
 have hK1:∀x∈dR K f q,K1 x=K x:=fun x hx=>(h1.old x (hQd x hx)).2.1
 have hw:dR K1 f q=dR K f q:=Df f q hK1
 rw [hw] at h2
 have hnd:(dR K (f+1) i).Nodup:=pg L (f+1) i his
 have hsplit:K i=(K i).take j ++ q :: (K i).drop (j+1):=by
  have hl:=(ai.1 hj).1
  have:(K i).drop j=q :: (K i).drop (j+1):=by
   rw [qA hl]
   congr 1
   exact(ai.1 hj).2
  rw [← this,bG]
 have hPQ:∀x∈pJ K f i j,x∉dR K f q:=fun x hx hxq=>by
  rw [dR,hsplit,jT,eG,← List.cons_append,jf] at hnd
  exact hnd.2.2 x hx x (qj _ hxq) rfl
 have hiQ:i∉dR K f q:=hPQ i (by simp [pJ])
 obtain⟨r3,hr3⟩:∃r3:Nat→Nat,∀x,r3 x=if x∈dR K f q then r2 x else r x:=⟨fun x=>if x∈dR K f q then r2 x else r x,fun _=>rfl⟩
 have h2':Cm S1 K1 d1 S2 K2 d2 q K (dR K f q) r2:={ h2 with kn:=fun x hx=>by rw [h2.kn x hx,hK1 x hx] }
 have k1:∀x∈pJ K f i j,∀k∈kJ K i j x,k∈pJ K f i j:=fun x hx k hk=>by
  unfold kJ at hk
  unfold pJ at hx ⊢
  rw [bn]
  split at hk
  ·exact .inr (bT.2 ⟨k,hk,by cases f <;> simp [dR]⟩)
  ·rename_i e
   rcases bn.1 hx with hx | hx
   ·exact absurd hx e
   ·obtain⟨z,hz,hx⟩:=bT.1 hx
    have:=L.qc i z (kE hz)
    exact .inr (bT.2 ⟨z,hz,L.wF f z x (by omega) hx k hk⟩)
 have k2:kJ K i (j+1) i=kJ K i j i ++ [q]:=by
  unfold kJ
  rw [aC rfl,aC rfl,fJ,hj];rfl
 have k3:∀x,x≠i→kJ K i (j+1) x=kJ K i j x:=fun x hx=>by
  unfold kJ;rw [ax hx,ax hx]
 have k4:∀x∈dR K f q,kJ K i j x=K x:=fun x hx=>by
  have hxi:x≠i:=fun e=>hiQ (e ▸ hx)
  unfold kJ;rw [ax hxi]
 obtain⟨d3,h3⟩:=QA (KJ':=kJ K i (j+1)) (r3:=r3) L h1 h2' (by simp [pJ]) (by cases f <;> simp [dR]) hq k1 (fun x hx k hk=>L.wF f q x (by omega) hx k hk) (yP K f q) hPQ hQd k2 k3 k4 (fun x hx=>by rw [hr3,ax (hPQ x hx)]) (fun x hx=>by rw [hr3,aC hx])
 exact⟨d3,r3,by rw [hr3,ax hiQ],fun S3 hL=>by rw [MJ hj];exact h3 S3 hL⟩
theorem Rt (K:Nat→List Nat)(f i:Nat):pJ K f i 0=[i]:=by unfold pJ;simp
theorem Ru (K:Nat→List Nat)(f i:Nat):pJ K f i (K i).length=dR K (f+1) i:=by unfold pJ;rw [dE];rfl
theorem U9 (K:Nat→List Nat)(f i j:Nat):(pJ K f i j).length≤(pJ K f i (K i).length).length:=by
 unfold pJ
 rw [dE]
 have:(K i).flatMap (dR K f)=((K i).take j).flatMap (dR K f) ++ ((K i).drop j).flatMap (dR K f):=by
  rw [← jT,bG]
 rw [this,List.length_cons,List.length_cons,aA]
 exact Nat.succ_le_succ (Nat.le_add_right _ _)
theorem Uw:ET Tryz.prog 79 92 2 32:=ET.mk' (z:=.agg #[.string ⟨#[]⟩,.string ⟨#[]⟩]) Tryz.underlying79 (by kernel_rfl) rfl (by omega)
def L6 (Q g cap:Nat)(X:List MX)(w:World)(R:List MN→List Rc→Int→Prop)(e:Ending)(w':World):Prop :=
 ∃X' v rs en,R (ms X') rs en∧e=.returned (.tuple #[v,.int .i64 en])∧w'.ownsRow w.heap.size 144 11 v rs.length (rows encR rs) ∧
  fU Q (.slice (some ⟨g,0,none⟩) X.length cap) X w (.slice (some ⟨g,0,none⟩) X'.length cap) X' w'
theorem own_base' {w:World}{B e size n:Nat}{v:Value}{xs:List Value}(h:Own w e size v n xs)(hb:∀k,v.ownBlock=some k→B≤k):w.ownsRow B e size v n xs:=by
 obtain⟨h1,h2⟩:=h
 refine⟨h1,h2.imp id ?_⟩
 rintro⟨g,cap,cur,rfl,_,rest⟩
 exact⟨g,cap,cur,rfl,hb g rfl,rest⟩
theorem Am (w:World)(r:Rc){B:Nat}(hB:B≤w.heap.size):(w.alloc (.cells (encR r).toArray 144)).ownsRow B 144 11 (.slice (some ⟨w.heap.size,0,none⟩) 1 1) [r].length (rows encR [r]):=by
 refine own_base' ?_ (fun k hk=>by cases hk;exact hB)
 have:=jg (n:=1) (size:=11) (dD.new w (encR r) 144) rfl (by omega)
 simpa [rows] using this
theorem Vd {Q:Nat}{nv:Value}{X:List MX}{w:World}(h:jC Q nv X w){k:Nat}(hk:Tj Q nv X k):∃cur t,w.heap[k]? = some (.cells cur t (0,0))∧t≠144∧t≠41:=by
 rcases hk with rfl | hk | ⟨x,hx,hk | hk⟩
 ·exact⟨_,_,h.W.blk,by decide,by decide⟩
 ·obtain⟨cur,hc⟩:=dF h.W.row hk;exact⟨cur,_,hc,by decide,by decide⟩
 ·obtain⟨cur,hc⟩:=dF (h.W.sF x hx) hk;exact⟨cur,_,hc,by decide,by decide⟩
 ·obtain⟨cur,hc⟩:=dF (h.W.kid x hx) hk;exact⟨cur,_,hc,by decide,by decide⟩
theorem uO {X:List MX}{i:Nat}{x x':MX}(hi:X[i]? = some x)(k:Nat)(y:MX)(hk:(X.set i x')[k]? = some y):(k=i∧y=x')∨(k≠i∧X[k]? = some y):=by
 have hil:=(ai.1 hi).1
 rw [dH] at hk
 by_cases e:i=k
 ·subst e;rw [aC rfl,aC hil] at hk;cases hk;exact .inl ⟨rfl,rfl⟩
 ·rw [ax e] at hk;exact .inr ⟨fun e2=>e e2.symm,hk⟩
theorem jC.Ud {Q g cap i:Nat}{X:List MX}{w w5:World}{x:MX}(h:jC Q (.slice (some ⟨g,0,none⟩) X.length cap) X w)(hi:X[i]? = some x)(hc:dU (fun k=>x.av.ownBlock=some k) w w5)(v:Value)(al:List jR)(ho:Own w5 92 2 v al.length (cu al))
  (hv:v.ownBlock=x.av.ownBlock∨∀b,v.ownBlock=some b→w.heap.size≤b) :
  fU Q (.slice (some ⟨g,0,none⟩) X.length cap) X w (.slice (some ⟨g,0,none⟩) (X.set i { x with av:=v,m:={ x.m with attrs:=al } }).length cap) (X.set i { x with av:=v,m:={ x.m with attrs:=al } }) (w5.setCell ⟨g,i*7+2,none⟩ v):=by
 have hil:=(ai.1 hi).1
 have hmi:=ah hi
 obtain⟨cg,hg⟩:=dF h.W.row (b:=g) rfl
 have hgl:=gp hg
 have hxa:∀b,x.av.ownBlock=some b→∃cur,w.heap[b]? = some (.cells cur 92 (0,0)):=fun b hb=>dF (h.W.sF x hmi) hb
 have hgx:x.av.ownBlock≠some g:=fun e=>by
  obtain⟨cur,hcur⟩:=hxa g e
  rw [hg] at hcur;cases hcur
 have hg5:w5.heap[g]? = w.heap[g]?:=hc.block g hgl hgx
 -- what lies in other blocks stays
 have oth:∀{e size n:Nat} {v:Value} {xs:List Value},Own w e size v n xs→e≠81→(∀b,v.ownBlock=some b→x.av.ownBlock≠some b)→Own (w5.setCell ⟨g,i*7+2,none⟩ ‹Value›) e size v n xs:=by
  intro e size n v xs ho hne hx
  refine iO ho (fun b hb=>?_)
  obtain⟨cur,hcur⟩:=dF ho hb
  refine(aF _ _ _ _ (fun e2=>?_)).trans (hc.block b (gp hcur) (hx b hb))
  rw [show b=g from e2,hg] at hcur
  cases hcur
  exact hne rfl
 have hAv:∀b,v.ownBlock=some b→b≠g:=fun b hb e=>by
  subst e
  rcases hv with e | e
  ·exact hgx (e ▸ hb)
  ·have:=e _ hb;omega
 have hov:Own (w5.setCell ⟨g,i*7+2,none⟩ v) 92 2 v al.length (cu al):=iO ho (fun b hb=>aF _ _ _ _ (hAv b hb))
 have hmem:∀y∈X.set i { x with av:=v,m:={ x.m with attrs:=al } },y={ x with av:=v,m:={ x.m with attrs:=al } }∨∃k,k≠i∧X[k]? = some y:=fun y hy=>by
  obtain⟨k,hk⟩:=aI.1 hy
  rcases uO hi k y hk with ⟨_,e⟩ | ⟨e,e2⟩
  ·exact .inl e
  ·exact .inr ⟨k,e,e2⟩
 have hneK:∀y∈X,∀b,y.kv.ownBlock=some b→x.av.ownBlock≠some b:=fun y hy b hb e=>by
  obtain⟨c1,h1⟩:=hxa b e
  obtain⟨c2,h2⟩:=dF (h.W.kid y hy) hb
  rw [h1] at h2;cases h2
 refine⟨⟨⟨?_,?_,?_,?_⟩,?_,?_⟩,?_,?_⟩
 ·have hQ:=h.W.blk
  rw [dI]
  refine hQ.kept ((aF _ _ _ _ (fun e=>?_)).trans (hc.block Q hQ.lt (fun e=>?_)))
  ·have e2:w.heap[Q]? = _:=hQ
   rw [show Q=g from e,hg] at e2;cases e2
  ·obtain⟨cur,hcur⟩:=hxa Q e
   have e2:w.heap[Q]? = _:=hQ
   rw [hcur] at e2;cases e2
 ·rw [dI,tK wP X i 2 x { x with av:=v,m:={ x.m with attrs:=al } } v hi (by omega) rfl]
  have h5:Own w5 81 7 (.slice (some ⟨g,0,none⟩) X.length cap) X.length (rows qZ X):=iO h.W.row (fun b hb=>by cases hb;exact hg5)
  exact tZ h5 (i*7+2) v
 ·intro y hy
  rcases hmem y hy with rfl | ⟨k,hk,hy⟩
  ·exact hov
  ·have hym:=ah hy
   have hoy:=h.W.sF y hym
   refine iO hoy (fun b hb=>?_)
   obtain⟨cur,hcur⟩:=dF hoy hb
   refine(aF _ _ _ _ (fun e2=>?_)).trans (hc.block b (gp hcur) (fun e2=>h.OM i k x y b (fun e=>hk e.symm) hi hy e2 hb))
   rw [show b=g from e2,hg] at hcur
   cases hcur
 ·intro y hy
  have hk':∃z∈X,y.kv=z.kv∧y.m.kids=z.m.kids:=by
   rcases hmem y hy with rfl | ⟨k,hk,hy⟩
   ·exact⟨x,hmi,rfl,rfl⟩
   ·exact⟨y,ah hy,rfl,rfl⟩
  obtain⟨z,hz,e1,e2⟩:=hk'
  rw [e1,e2]
  have hoz:=h.W.kid z hz
  refine iO hoz (fun b hb=>?_)
  obtain⟨cur,hcur⟩:=dF hoz hb
  refine(aF _ _ _ _ (fun e3=>?_)).trans (hc.block b (gp hcur) (hneK z hz b hb))
  rw [show b=g from e3,hg] at hcur
  cases hcur
 ·intro a c p q b hac hp hq hb
  have fresh:∀y∈X,∀b,y.av.ownBlock=some b→b < w.heap.size:=fun y hy b hb=>jy (h.W.sF y hy) hb
  rcases uO hi a p hp with ⟨rfl,rfl⟩ | ⟨e1,hp'⟩
  ·rcases uO hi c q hq with ⟨e2,_⟩ | ⟨e2,hq⟩
   ·exact absurd e2.symm hac
   ·intro e3
    have hb':v.ownBlock=some b:=hb
    rcases hv with e | e
    ·rw [e] at hb';exact h.OM a c x q b hac hi hq hb' e3
    ·have:=e b hb';have:=fresh q (ah hq) b e3;omega
  ·rcases uO hi c q hq with ⟨rfl,rfl⟩ | ⟨e2,hq⟩
   ·intro e3
    have hb':v.ownBlock=some b:=e3
    rcases hv with e | e
    ·rw [e] at hb';exact h.OM a c p x b hac hp' hi hb hb'
    ·have:=e b hb';have:=fresh p (ah hp') b hb;omega
   ·exact h.OM a c p q b hac hp' hq hb
 ·intro a c p q b hac hp hq hb
  have back:∀(k:Nat) (y:MX),(X.set i { x with av:=v,m:={ x.m with attrs:=al } })[k]? = some y→∃z,X[k]? = some z∧y.kv=z.kv:=fun k y hk=>by
   rcases uO hi k y hk with ⟨rfl,rfl⟩ | ⟨_,e⟩
   ·exact⟨x,hi,rfl⟩
   ·exact⟨y,e,rfl⟩
  obtain⟨z1,h1,e1⟩:=back a p hp
  obtain⟨z2,h2,e2⟩:=back c q hq
  rw [e2]
  exact h.OY a c z1 z2 b hac h1 h2 (e1 ▸ hb)
 ·exact(hc.mono (G:=Tj Q (.slice (some ⟨g,0,none⟩) X.length cap) X) (fun k _ e=>.inr (.inr ⟨x,hmi,.inl e⟩))).setCell ⟨g,i*7+2,none⟩ (fun _=>.inr (.inl rfl)) v
 ·intro k hk
  rcases hk with rfl | hk | ⟨y,hy,hk⟩
  ·exact .inl (.inl rfl)
  ·exact .inl (.inr (.inl hk))
  ·rcases hmem y hy with rfl | ⟨k',_,hy⟩
   ·rcases hk with hk | hk
    ·have hk':v.ownBlock=some k:=hk
     rcases hv with e | e
     ·exact .inl (.inr (.inr ⟨x,hmi,.inl (e ▸ hk')⟩))
     ·exact .inr (e k hk')
    ·exact .inl (.inr (.inr ⟨x,hmi,.inr hk⟩))
   ·exact .inl (.inr (.inr ⟨y,ah hy,hk⟩))
theorem jC.VB {Q g cap i ga ca k:Nat}{X:List MX}{w:World}{x:MX}{y:jR}(h:jC Q (.slice (some ⟨g,0,none⟩) X.length cap) X w)(hi:X[i]? = some x)(hav:x.av=.slice (some ⟨ga,0,none⟩) x.m.attrs.length ca)(hy:x.m.attrs[k]? = some y)(val:List UInt8) :
  fU Q (.slice (some ⟨g,0,none⟩) X.length cap) X w (.slice (some ⟨g,0,none⟩) (X.set i { x with m:={ x.m with attrs:=x.m.attrs.set k (y.1,val) } }).length cap) (X.set i { x with m:={ x.m with attrs:=x.m.attrs.set k (y.1,val) } }) (w.setCell ⟨ga,k*2+1,none⟩ (dA val)):=by
 have hil:=(ai.1 hi).1
 have hmi:=ah hi
 have hxo:=h.W.sF x hmi
 obtain⟨cga,hga⟩:=dF hxo (b:=ga) (by rw [hav];rfl)
 have hmxC:qZ { x with m:={ x.m with attrs:=x.m.attrs.set k (y.1,val) } }=qZ x:=rfl
 have hrows:rows qZ (X.set i { x with m:={ x.m with attrs:=x.m.attrs.set k (y.1,val) } })=rows qZ X:=by
  have:=tK wP X i 0 x { x with m:={ x.m with attrs:=x.m.attrs.set k (y.1,val) } } (.int .i64 x.m.kind) hi (by omega) rfl
  rw [this]
  have h1:=CJ wP X i x hi 0 (by omega)
  apply gu
  intro n
  rw [dH]
  split
  ·rename_i e
   subst e
   split
   ·rw [h1];rfl
   ·rename_i h2;rw [bQ (by omega)]
  ·rfl
 have hmem:∀z∈X.set i { x with m:={ x.m with attrs:=x.m.attrs.set k (y.1,val) } },z={ x with m:={ x.m with attrs:=x.m.attrs.set k (y.1,val) } }∨∃k,k≠i∧X[k]? = some z:=fun z hz=>by
  obtain⟨k,hk⟩:=aI.1 hz
  rcases uO hi k z hk with ⟨_,e⟩ | ⟨e,e2⟩
  ·exact .inl e
  ·exact .inr ⟨k,e,e2⟩
 have back:∀(k':Nat) (z:MX),(X.set i { x with m:={ x.m with attrs:=x.m.attrs.set k (y.1,val) } })[k']? = some z→∃z0,X[k']? = some z0∧z.kv=z0.kv∧z.av=z0.av∧z.m.kids=z0.m.kids:=fun k' z hk=>by
  rcases uO hi k' z hk with ⟨rfl,rfl⟩ | ⟨_,e⟩
  ·exact⟨x,hi,rfl,rfl,rfl⟩
  ·exact⟨z,e,rfl,rfl,rfl⟩
 have oth:∀{e size n:Nat} {v:Value} {xs:List Value},Own w e size v n xs→e≠92→Own (w.setCell ⟨ga,k*2+1,none⟩ (dA val)) e size v n xs:=fun {e size n v xs} ho hne=>iO ho (fun b hb=>by
  refine aF _ _ _ _ (fun e2=>?_)
  obtain⟨cur,hcur⟩:=dF ho hb
  rw [show b=ga from e2,hga] at hcur
  cases hcur
  exact hne rfl)
 refine⟨⟨⟨?_,?_,?_,?_⟩,?_,?_⟩,?_,?_⟩
 ·rw [dI]
  refine h.W.blk.setOther ⟨ga,k*2+1,none⟩ (fun e=>?_) _
  have e2:w.heap[Q]? = _:=h.W.blk
  rw [show Q=ga from e,hga] at e2
  cases e2
 ·rw [dI,hrows]
  exact oth h.W.row (by decide)
 ·intro z hz
  rcases hmem z hz with rfl | ⟨k',hk,hz⟩
  ·show Own _ _ _ x.av (x.m.attrs.set k (y.1,val)).length (cu (x.m.attrs.set k (y.1,val)))
   rw [dI,Gq _ _ _ hy,hav,show k*2+1=2*k+1 by omega]
   rw [hav] at hxo
   exact tZ hxo (2*k+1) (dA val)
  ·have hoz:=h.W.sF z (ah hz)
   exact iO hoz (fun b hb=>aF _ _ _ _ (fun e2=>h.OM i k' x z b (fun e=>hk e.symm) hi hz (by rw [hav,show b=ga from e2];rfl) hb))
 ·intro z hz
  obtain⟨k',hk⟩:=aI.1 hz
  obtain⟨z0,h1,e1,e2,e3⟩:=back k' z hk
  rw [e1,e3]
  exact oth (h.W.kid z0 (ah h1)) (by decide)
 ·intro a c p q b hac hp hq hb
  obtain⟨z1,h1,_,e1,_⟩:=back a p hp
  obtain⟨z2,h2,_,e2,_⟩:=back c q hq
  rw [e2]
  exact h.OM a c z1 z2 b hac h1 h2 (e1 ▸ hb)
 ·intro a c p q b hac hp hq hb
  obtain⟨z1,h1,e1,_,_⟩:=back a p hp
  obtain⟨z2,h2,e2,_,_⟩:=back c q hq
  rw [e2]
  exact h.OY a c z1 z2 b hac h1 h2 (e1 ▸ hb)
 ·exact(dU.refl _ w).setCell ⟨ga,k*2+1,none⟩ (fun _=>.inr (.inr ⟨x,hmi,.inl (by rw [hav];rfl)⟩)) _
 ·intro b hb
  rcases hb with rfl | hb | ⟨z,hz,hb⟩
  ·exact .inl (.inl rfl)
  ·exact .inl (.inr (.inl hb))
  ·obtain⟨k',hk⟩:=aI.1 hz
   obtain⟨z0,h1,e1,e2,_⟩:=back k' z hk
   exact .inl (.inr (.inr ⟨z0,ah h1,by rw [← e1,← e2];exact hb⟩))
theorem jC.U6 {Q g cap i:Nat}{X:List MX}{w:World}{x:MX}(h:jC Q (.slice (some ⟨g,0,none⟩) X.length cap) X w)(hi:X[i]? = some x)(m:MN)(j:Nat)(u:Value)(hj:j < 7)(hx:qZ { x with m:=m }=(qZ x).set j u)(ha:m.attrs=x.m.attrs)(hk:m.kids=x.m.kids) :
  fU Q (.slice (some ⟨g,0,none⟩) X.length cap) X w (.slice (some ⟨g,0,none⟩) (X.set i { x with m:=m }).length cap) (X.set i { x with m:=m }) (w.setCell ⟨g,i*7+j,none⟩ u):=by
 have hm:=ah hi
 have hat:=h.put hi { x with m:=m } u hj (j:=j) hx (by rw [ha];exact h.W.sF x hm) (by rw [hk];exact h.W.kid x hm) (.inl rfl) (.inl rfl)
 refine⟨by rw [dI];exact hat,(dU.refl _ w).setCell ⟨g,i*7+j,none⟩ (fun _=>.inr (.inl rfl)) _,fun k hk'=>?_⟩
 rcases hk' with rfl | hk' | ⟨y,hy,hk'⟩
 ·exact .inl (.inl rfl)
 ·exact .inl (.inr (.inl hk'))
 ·rcases qp hy with hy | rfl
  ·exact .inl (.inr (.inr ⟨y,hy,hk'⟩))
  ·exact .inl (.inr (.inr ⟨x,hm,hk'⟩))
inductive JW (M:List MN) (c:Nat) (mc:MN):List MN→List Rc→Int→Prop
 | doc (h:c=0):JW M c mc M [] 10
 | top (h0:c≠0) (h:mc.par=none):JW M c mc M [] 0
 | cut (q i:Nat) (mq:MN) (h0:c≠0) (h1:mc.par=some q) (h2:lv M q=some mq) (h3:mq.kids[i]? = some c):JW M c mc (uH M q i c) [Ub q c (pI (pv mq.kids i)) (pI mq.kids[i+1]?) i] 0
theorem Ji {Q g cap:Nat}{X:List MX}{D:Nat→Nat}{w:World}(h:jC Q (.slice (some ⟨g,0,none⟩) X.length cap) X w)(hW:MW (ms X) D){c:Nat}{mc:MN}(hc:lv (ms X) c=some mc) :
  Calls Tryz.prog 44 #[.pointer (some ⟨Q,0,none⟩),.int .i64 (c:Int)] w (L6 Q g cap X w (JW (ms X) c mc)):=by
 have c0:=h.W.ptr
 obtain⟨_,c4,_⟩:=h.W.FZ hc
 have lc:=lU hc
 have hf:=hW.few
 rw [aY] at hf
 have H0:=ae h
 have HW:=ae hW
 have HC:=ae hc
 clear h hW hc
 by_cases hc0:c=0
 ·subst hc0
  clear c4
  go_enter Tryz.func44,Tryz.ntmps44
  go_wp2_with fail
  go_ret2
  exact⟨X,_,[],10,.doc rfl,rfl,aG _ _ _ _,fU.refl H0.out (ak _ _)⟩
 ·have hb:((c:Int) == 0)=false:=by simp;omega
  cases hp:mc.par with
  | none =>
   rw [hp,show pI none=-1 from rfl] at c4
   have HP:=ae hp
   clear hp
   go_enter Tryz.func44,Tryz.ntmps44
   go_wp2_with fail
   go_ret2
   exact⟨X,_,[],0,.top hc0 HP.out,rfl,aG _ _ _ _,fU.refl H0.out (ak _ _)⟩
  | some q =>
   obtain⟨mq,hq,hcq,_⟩:=HW.out.par c mc q HC.out hp
   obtain⟨i0,hi0⟩:=aI.1 hcq
   have HCu:=ae (Jk H0.out HW.out HC.out hp hq hi0)
   have HR:=ae (show JW (ms X) c mc (uH (ms X) q i0 c) [Ub q c (pI (pv mq.kids i0)) (pI mq.kids[i0+1]?) i0] 0 from .cut q i0 mq hc0 hp hq hi0)
   rw [hp,show pI (some q)=(q:Int) from rfl] at c4
   clear hp hq hcq hi0
   go_enter Tryz.func44,Tryz.ntmps44
   go_wp2_with fail
   refine HCu.out.mono ?_
   rintro e wb ⟨X1,hms,rfl,hM⟩
   have HM:=ae hM
   have HMs:=ae hms
   clear hM hms c0 c4
   simp only [recC,dA]
   go_wp2_with fail
   go_ret2
   refine⟨X1,_,[Ub q c (pI (pv mq.kids i0)) (pI mq.kids[i0+1]?) i0],0,by rw [HMs.out];exact HR.out,rfl,Am wb _ HM.out.qU.size,HM.out.still ((ak _ _).alloc (au _) _)⟩
def Ae (h:Int)(name old:List UInt8)(had:Bool):Rc:=⟨3,h,-1,-1,-1,0,name,old,had,0,0⟩
inductive zW (M:List MN) (h:Nat) (mh:MN) (name val:List UInt8):List MN→List Rc→Int→Prop
 | kind (hk:mh.kind≠2):zW M h mh name val M [] 10
 | arg (hk:mh.kind=2) (hn:headB name=false):zW M h mh name val M [] 1
 | add (hk:mh.kind=2) (hn:headB name=true) (h1:mJ mh.attrs name=-1):zW M h mh name val (M.set h { mh with attrs:=mh.attrs ++ [(name,ik val)] }) [Ae h name [] false] 0
 | set (k:Nat) (y:jR) (hk:mh.kind=2) (hn:headB name=true) (h1:mJ mh.attrs name=(k:Int)) (h2:mh.attrs[k]? = some y):zW M h mh name val (M.set h { mh with attrs:=mh.attrs.set k (y.1,ik val) }) [Ae h name y.2 true] 0
theorem yF (a b:List UInt8):∀u∈[Value.string ⟨a.toArray⟩,.string ⟨b.toArray⟩],u.oneCell'=true:=by
 intro u hu
 simp only [bn,iH,rP] at hu
 rcases hu with rfl | rfl <;> rfl
theorem sJ {w:World}{r:Nat}{a b c d e f:Int}{n o:ByteArray}{x:Bool}{y z:Int}(h:dD w r [.int .i64 a,.int .i64 b,.int .i64 c,.int .i64 d,.int .i64 e,.int .i64 f,.string n,.string o,.bool x,.int .i64 y,.int .i64 z] 144) :
  (w.cell? ⟨r,0,none⟩=some (.int .i64 a)∧w.cell? ⟨r,1,none⟩=some (.int .i64 b)∧w.cell? ⟨r,2,none⟩=some (.int .i64 c)∧w.cell? ⟨r,3,none⟩=some (.int .i64 d)∧w.cell? ⟨r,4,none⟩=some (.int .i64 e)∧w.cell? ⟨r,5,none⟩=some (.int .i64 f) ∧
   w.cell? ⟨r,6,none⟩=some (.string n)∧w.cell? ⟨r,7,none⟩=some (.string o)∧w.cell? ⟨r,8,none⟩=some (.bool x)∧w.cell? ⟨r,9,none⟩=some (.int .i64 y)∧w.cell? ⟨r,10,none⟩=some (.int .i64 z))∧∀j,w.frozen? ⟨r,j,none⟩=false :=
 ⟨⟨h.cell 0,h.cell 1,h.cell 2,h.cell 3,h.cell 4,h.cell 5,h.cell 6,h.cell 7,h.cell 8,h.cell 9,h.cell 10⟩,h.free⟩
theorem G9 {Q g cap:Nat}{X:List MX}{w:World}(h:jC Q (.slice (some ⟨g,0,none⟩) X.length cap) X w)(hf:X.length≤100000){c:Nat}{mc:MN}(hc:lv (ms X) c=some mc)(hl:mc.attrs.length≤10000)(name val:List UInt8)(hn:name.length≤1000)(hv:val.length≤1000) :
  Calls Tryz.prog 45 #[.pointer (some ⟨Q,0,none⟩),.int .i64 (c:Int),dA name,dA val] w (L6 Q g cap X w (zW (ms X) c mc name val)):=by
 have c0:=h.W.ptr
 obtain⟨ck,_,_⟩:=h.W.FZ hc
 have lc:=lU hc
 obtain⟨x,hx,rfl,hg⟩:=qG hc
 have H0:=ae h
 have HX:=ae hx
 have HHd:=ae (fun wx=>Ee name (by omega) wx)
 have HRp:=ae (fun wx=>pU val wx (by omega))
 have HFd:=ae (fun wx (hb:Below w.heap.size w wx)=>FW (h.below hb).W hf c hx (by omega) name)
 have HQ:=ae (fun wx (hb:Below w.heap.size w wx)=>(h.below hb).W.ptr)
 obtain⟨aa,ac,hav⟩:=h.W.Ip (ah hx)
 have HC2:=ae (fun wx (hb:Below w.heap.size w wx)=>(h.below hb).W.cell hx 2 (by omega))
 simp only [qZ,fQ,fP,hav] at HC2
 have HAV:=ae hav
 clear h hc hx hav
 unfold dA at *
 by_cases hk:x.m.kind=2
 rotate_left
 ·have hb:(x.m.kind != 2)=true:=by simpa using hk
  go_enter Tryz.func45,Tryz.ntmps45
  go_wp2_with fail
  go_ret2
  exact⟨X,_,[],10,.kind hk,rfl,aG _ _ _ _,fU.refl H0.out (ak _ _)⟩
 have HK:=ae hk
 rw [hk] at ck
 clear hk
 have HMx:=ae (show ∀(c1:headB name=false),zW (ms X) c x.m name val (ms X) [] 1 from fun c1=>.arg HK.out c1)
 have HMadd:=ae (fun(c1:headB name=true) (c2:mJ x.m.attrs name=-1)=>zW.add (M:=ms X) (h:=c) (mh:=x.m) (val:=val) HK.out c1 c2)
 have HMset:=ae (fun(c1:headB name=true) (k:Nat) (y:jR) (c2:mJ x.m.attrs name=(k:Int)) (c3:x.m.attrs[k]? = some y)=>zW.set (M:=ms X) (h:=c) (mh:=x.m) (val:=val) k y HK.out c1 c2 c3)
 have hcases:=ug x.m.attrs name
 generalize zW (ms X) c x.m name val=RX at *
 generalize mJ x.m.attrs name=r at *
 generalize headB name=hB at *
 generalize ik val=val' at *
 go_enter Tryz.func45,Tryz.ntmps45
 go_wp2_with fail
 refine(HHd.out _).mono ?_
 rintro e w1 ⟨rfl,hb1⟩
 clear c0 ck
 cases hB
 ·go_wp2_with fail
  go_ret2
  exact⟨X,_,[],1,HMx.out (by first | rfl | trivial),rfl,aG _ _ _ _,fU.refl H0.out hb1⟩
 go_wp2_with fail
 refine(HRp.out _).mono ?_
 rintro e w2 ⟨rfl,hb2⟩
 have hB2:=aV hb1 hb2
 go_wp2_with fail
 refine(HFd.out _ hB2).mono ?_
 rintro e wz ⟨rfl,hw⟩
 subst wz
 clear HHd HRp HFd hb1 hb2
 go_upto_region 8 with fail
 have k6:dD (w2.alloc (.cells #[.int .i64 3,.int .i64 (c:Int),.int .i64 (-1),.int .i64 (-1),.int .i64 (-1),.int .i64 0,.string ⟨name.toArray⟩,.string ⟨#[]⟩,.bool false,.int .i64 0,.int .i64 0] 144)) w2.heap.size [.int .i64 3,.int .i64 (c:Int),.int .i64 (-1),.int .i64 (-1),.int .i64 (-1),.int .i64 0,.string ⟨name.toArray⟩,.string ⟨#[]⟩,.bool false,.int .i64 0,.int .i64 0] 144:=dD.new w2 _ _
 have hB6:Below w.heap.size w (w2.alloc (.cells #[.int .i64 3,.int .i64 (c:Int),.int .i64 (-1),.int .i64 (-1),.int .i64 (-1),.int .i64 0,.string ⟨name.toArray⟩,.string ⟨#[]⟩,.bool false,.int .i64 0,.int .i64 0] 144)):=hB2.alloc hB2.size _
 have hr6:w.heap.size≤w2.heap.size:=hB2.size
 generalize hrb:w2.heap.size=rb at *
 generalize w2.alloc (.cells #[.int .i64 3,.int .i64 (c:Int),.int .i64 (-1),.int .i64 (-1),.int .i64 (-1),.int .i64 0,.string ⟨name.toArray⟩,.string ⟨#[]⟩,.bool false,.int .i64 0,.int .i64 0] 144)=w6 at *
 have H6:=ae (H0.out.below hB6)
 have HK6:=ae k6
 have HB6:=ae hB6
 have rl6:rb < w6.heap.size:=k6.lt
 clear k6 hB2 hrb
 rcases hcases with rfl | ⟨k,y,rfl,hy⟩
 ·have q0:=HQ.out _ hB6
  have q2:=HC2.out _ hB6
  have lq:=H6.out.W.blk.lt
  have lg:=jy H6.out.W.row (k:=g) rfl
  have hgQ:g≠Q:=fun e=>by
   have h1:=H6.out.W.blk
   obtain⟨cg,hg⟩:=dF H6.out.W.row (b:=g) rfl
   rw [← e] at h1
   exact dw h1 hg (by decide) rfl
  have HOx:=ae (show Own w6 92 2 (.slice aa x.m.attrs.length ac) x.m.attrs.length (cu x.m.attrs) from by have:=H6.out.W.sF x (ah HX.out);rw [HAV.out] at this;exact this)
  have hla:∀k,(Value.slice aa x.m.attrs.length ac).ownBlock=some k→k < w6.heap.size∧k≠Q∧k≠g∧k≠rb:=fun k hk=>by
   obtain⟨cur,hcur⟩:=dF HOx.out hk
   refine⟨gp hcur,fun e=>?_,fun e=>?_,fun e=>?_⟩
   ·subst e;exact dw hcur H6.out.W.blk (by decide) rfl
   ·subst e;obtain⟨cg,hg⟩:=dF H6.out.W.row (b:=k) rfl;exact dw hcur hg (by decide) rfl
   ·subst e;exact dw hcur HK6.out (by decide) rfl
  have hbd:Below w6.heap.size w6 (w6.drew.alloc (.cells #[.string ⟨name.toArray⟩,.string ⟨val'.toArray⟩] 92)):=((ak w6.heap.size w6).drew).alloc (au _) _
  have HO:=ae (bH HOx.out hbd)
  have HS:=ae (jg (n:=1) (size:=2) (dD.new w6.drew [.string ⟨name.toArray⟩,.string ⟨val'.toArray⟩] 92) rfl (by omega))
  have HF:=ae (fun wx (hb:Below w6.heap.size w6 wx)=>(H6.out.below hb).W.Ou)
  have HQ6:=ae (fun wx (hc:dU (fun k=>(Value.slice aa x.m.attrs.length ac).ownBlock=some k) w6 wx)=>(show wx.cell? ⟨Q,0,none⟩=some (.slice (some ⟨g,0,none⟩) X.length cap)∧wx.cell? ⟨g,c*7+2,none⟩=some (.slice aa x.m.attrs.length ac)∧(∀j,wx.frozen? ⟨g,j,none⟩=false) from by
   have eQ:wx.heap[Q]? = w6.heap[Q]?:=hc.block Q lq (fun e=>(hla Q e).2.1 rfl)
   have eg:wx.heap[g]? = w6.heap[g]?:=hc.block g lg (fun e=>(hla g e).2.2.1 rfl)
   refine⟨?_,?_,fun j=>?_⟩
   ·rw [show wx.cell? ⟨Q,0,none⟩=w6.cell? ⟨Q,0,none⟩ from by simp [World.cell?,eQ]];exact q0
   ·rw [show wx.cell? ⟨g,c*7+2,none⟩=w6.cell? ⟨g,c*7+2,none⟩ from by simp [World.cell?,eg]];exact q2
   ·have:=H6.out.W.Ou (c*7+2)
    rw [show wx.frozen? ⟨g,j,none⟩=w6.frozen? ⟨g,j,none⟩ from by simp [World.frozen?,eg]];exact H6.out.W.Ou j))
  have hneg:decide ((0:Int)≤(-1:Int))=false:=by decide
  go_wp2_with fail
  go_region_law (first
   | (refine jO Uw HO.out (aZ _) HS.out (yF _ _) (by omega) (by omega) (by rfl) _ _ (by rfl) (by rfl) (by rfl) ?_;intro v' w7 ho hgr hvb;
       have hc7:dU (fun k=>(Value.slice aa x.m.attrs.length ac).ownBlock=some k) w6 w7:=(((dU.refl _ w6).drew).alloc _).grown hgr (fun k e _=>e);
       obtain⟨s0,s2,sz⟩:=HQ6.out _ hc7;obtain⟨va,vc,rfl⟩:=bP ho;have HO7:=ae ho;have HC7:=ae hc7;have HV7:=ae hvb;clear ho hgr hvb hc7))
  all_goals
   have hs7:w6.heap.size≤w7.heap.size:=HC7.out.size
   have hp:=H6.out.Ud HX.out (HAV.out ▸ HC7.out) (.slice va (x.m.attrs.length+1) vc) (x.m.attrs ++ [(name,val')]) (by rw [aA,List.length_singleton,yE];exact HO7.out) (by
    rw [HAV.out]
    rcases HV7.out with e | e
    ·exact .inl e
    ·exact .inr (fun b hb=>by rw [e] at hb;cases hb;exact hbd.size))
   have hk7:dD (w7.setCell ⟨g,c*7+2,none⟩ (.slice va (x.m.attrs.length+1) vc)) rb _ _:=(HK6.out.qU HC7.out (fun e=>(hla rb e).2.2.2 rfl)).setOther ⟨g,c*7+2,none⟩ (fun e=>by
    have h1:=HK6.out
    obtain⟨cg,hg⟩:=dF H6.out.W.row (b:=g) rfl
    rw [show rb=g from e] at h1
    exact dw h1 hg (by decide) rfl) _
   have HP7:=ae ((fU.refl H0.out HB6.out).trans hp)
   have HK7:=ae hk7
   clear hp hk7 s0 s2 sz HC7 HO7
   generalize w7.setCell ⟨g,c*7+2,none⟩ (.slice va (x.m.attrs.length+1) vc)=w8 at *
   obtain⟨⟨b0,b1,b2,b3,b4,b5,b6,b7,b8,b9,b10⟩,zf⟩:=sJ HK7.out
   go_wp2_with fail
   go_ret2
   refine⟨_,_,[Ae c name [] false],0,?_,rfl,Am w8 _ HP7.out.qU.size,HP7.out.still ((ak _ _).alloc (au _) _)⟩
   rw [uh]
   exact HMadd.out (by first | rfl | trivial) (by first | rfl | trivial)
 ·have hneg:decide ((0:Int)≤(k:Int))=true:=by simp
  have hkl:=(ai.1 hy).1
  have q0:=HQ.out _ hB6
  have q2:=HC2.out _ hB6
  have HOx:=ae (show Own w6 92 2 (.slice aa x.m.attrs.length ac) x.m.attrs.length (cu x.m.attrs) from by have:=H6.out.W.sF x (ah HX.out);rw [HAV.out] at this;exact this)
  obtain⟨ga,hga⟩:∃ga,aa=some ⟨ga,0,none⟩:=by
   rcases HOx.out.2 with ⟨e,_⟩ | ⟨ga,cap',cur,e,_⟩
   ·simp only [bD] at e;omega
   ·simp only [bD] at e;exact⟨ga,e.1⟩
  subst hga
  have hyc:=(kz x.m.attrs k y hy).2
  have q1:w6.cell? ⟨ga,k*2+1,none⟩=some (.string ⟨y.2.toArray⟩):=by
   have:=iM HOx.out (2*k+1) _ hyc
   rw [aP,aJ] at this
   rw [show k*2+1=2*k+1 by omega]
   exact this
  have qz:∀j,w6.frozen? ⟨ga,j,none⟩=false:=fun j=>HOx.out.frozenAt j
  have hga6:ga < w6.heap.size:=jy HOx.out rfl
  have hgar:ga≠rb:=fun e=>by
   obtain⟨cur,hcur⟩:=dF HOx.out (b:=ga) rfl
   exact dw hcur HK6.out (by decide) e
  have hQr:Q≠rb:=fun e=>dw H6.out.W.blk HK6.out (by decide) e
  have hgr:g≠rb:=fun e=>by
   obtain⟨cg,hg⟩:=dF H6.out.W.row (b:=g) rfl
   exact dw hg HK6.out (by decide) e
  obtain⟨⟨b0,b1,b2,b3,b4,b5,b6,b7,b8,b9,b10⟩,zf⟩:=sJ HK6.out
  have HY:=ae hy
  clear hy hyc
  go_upto_region 11 with fail
  have hk7:=(HK6.out.set 8 (.bool true)).set 7 (.string ⟨y.2.toArray⟩)
  simp only [List.set_cons_succ,List.set_cons_zero] at hk7
  have oth:∀k',k'≠rb→((w6.setCell ⟨rb,8,none⟩ (.bool true)).setCell ⟨rb,7,none⟩ (.string ⟨y.2.toArray⟩)).heap[k']? = w6.heap[k']?:=fun k' hk'=>(aF _ _ _ _ hk').trans (aF _ _ _ _ hk')
  have hch7:dU (fun k=>k=rb) w6 ((w6.setCell ⟨rb,8,none⟩ (.bool true)).setCell ⟨rb,7,none⟩ (.string ⟨y.2.toArray⟩)):=((dU.refl (fun k=>k=rb) w6).setCell ⟨rb,8,none⟩ (fun _=>(rfl:rb=rb)) _).setCell ⟨rb,7,none⟩ (fun _=>(rfl:rb=rb)) _
  have h7:jC Q (.slice (some ⟨g,0,none⟩) X.length cap) X ((w6.setCell ⟨rb,8,none⟩ (.bool true)).setCell ⟨rb,7,none⟩ (.string ⟨y.2.toArray⟩)):=(ui Q (.slice (some ⟨g,0,none⟩) X.length cap) X).loc w6 _ H6.out (fun k' hk'=>oth k' (fun e=>by
   obtain⟨cur,ty,hcur,hne,_⟩:=Vd H6.out hk'
   subst e
   exact dw hcur HK6.out hne rfl))
  have hM7:fU Q (.slice (some ⟨g,0,none⟩) X.length cap) X w (.slice (some ⟨g,0,none⟩) X.length cap) X ((w6.setCell ⟨rb,8,none⟩ (.bool true)).setCell ⟨rb,7,none⟩ (.string ⟨y.2.toArray⟩)) :=
   ⟨h7,(dU.of_below HB6.out).trans hch7 (fun i hi e=>by subst e;omega),fun k hk=>.inl hk⟩
  have q0':=h7.W.ptr
  have q2':=h7.W.cell HX.out 2 (by omega)
  simp only [qZ,fQ,fP,HAV.out] at q2'
  have qz':∀j,((w6.setCell ⟨rb,8,none⟩ (.bool true)).setCell ⟨rb,7,none⟩ (.string ⟨y.2.toArray⟩)).frozen? ⟨ga,j,none⟩=false:=fun j=>by
   have:=h7.W.sF x (ah HX.out)
   rw [HAV.out] at this
   exact this.frozenAt j
  have q1':((w6.setCell ⟨rb,8,none⟩ (.bool true)).setCell ⟨rb,7,none⟩ (.string ⟨y.2.toArray⟩)).cell? ⟨ga,k*2+1,none⟩=some (.string ⟨y.2.toArray⟩):=by
   have h8:=h7.W.sF x (ah HX.out)
   rw [HAV.out] at h8
   have:=iM h8 (2*k+1) _ (kz x.m.attrs k y HY.out).2
   rw [aP,aJ] at this
   rw [show k*2+1=2*k+1 by omega]
   exact this
  have HM7:=ae hM7
  have H7:=ae h7
  have HK7:=ae hk7
  clear hk7 oth hch7 h7 hM7 q0 q2 q1 qz b0 b1 b2 b3 b4 b5 b6 b7 b8 b9 b10 zf
  generalize (w6.setCell ⟨rb,8,none⟩ (.bool true)).setCell ⟨rb,7,none⟩ (.string ⟨y.2.toArray⟩)=w7 at *
  go_upto_region 13 with fail
  have hp:=H7.out.VB HX.out HAV.out HY.out val'
  have hk8:=HK7.out.setOther ⟨ga,k*2+1,none⟩ (fun e=>hgar e.symm) (dA val')
  have HP8:=ae (HM7.out.trans hp)
  have HK8:=ae hk8
  unfold dA at HP8 HK8
  clear hp hk8 q0' q1' q2' qz'
  generalize w7.setCell ⟨ga,k*2+1,none⟩ (.string ⟨val'.toArray⟩)=w8 at *
  obtain⟨⟨b0,b1,b2,b3,b4,b5,b6,b7,b8,b9,b10⟩,zf⟩:=sJ HK8.out
  go_wp2_with fail
  go_ret2
  refine⟨_,_,[Ae c name y.2 true],0,?_,rfl,Am w8 _ HP8.out.qU.size,HP8.out.still ((ak _ _).alloc (au _) _)⟩
  rw [uh]
  exact HMset.out (by first | rfl | trivial) k y (by first | rfl | trivial) HY.out
end Go.Proofs.YtfelmdkeaacfeaaGreatDoor.W
end
