/- Texts joined: TwB TwI Wlk. -/
import Derived.Test.YtfelmdkeaacfeaaGreatDoorTB1
import Derived.Test.YtfelmdkeaacfeaaGreatDoorTB15
set_option maxRecDepth 100000
set_option maxHeartbeats 40000000
set_option linter.unusedVariables false
set_option linter.unusedSimpArgs false
section
namespace Go.Proofs.YtfelmdkeaacfeaaGreatDoor.W
open Go.RowKit
def Tr.mV (S:Tr):Nat:=(S.free.getLast?).getD S.slots.length
def Tr.add (S:Tr)(n:Nd):Tr:=match S.free.getLast? with
 | none=>S.snoc n
 | some i=>{ S with slots:=S.slots.set i (some n),free:=S.free.dropLast }
structure Added (S S':Tr) (s:Nat) (n:Nd):Prop where
 at_:∀x,S'.at x=if x=s then some n else S.at x
 no:S.at s=none
 len:S.slots.length≤S'.slots.length∧S'.slots.length≤S.slots.length+1∧s < S'.slots.length
 eb:S'.b=S.b
 es:S'.s=S.s
 root:S'.root=S.root
 free:∀i∈S'.free,i∈S.free∧i≠s
 rZ:S.free.Nodup→S'.free.Nodup
 slot:∀i,i≠s→i < S.slots.length→S'.slots[i]? = S.slots[i]?
theorem oL {S:Tr}(hf:∀i∈S.free,S.slots[i]? = some none)(hn:S.free.Nodup)(n:Nd):Added S (S.add n) S.mV n:=by
 unfold Tr.add Tr.mV
 cases e:S.free.getLast? with
 | none =>
  have e':S.free=[]:=by simpa using e
  simp only [Option.getD_none]
  refine⟨mQ S n,yG (au _),by rw [vF];omega,rfl,rfl,rfl,fun i hi=>?_,id,fun i hi hl=>?_⟩
  ·have:i∈S.free:=hi
   rw [e'] at this;cases this
  ·show(S.slots ++ [some n])[i]? = _
   rw [di hl]
 | some i =>
  have hi:=hf i (wB e)
  have hil:=(ai.1 hi).1
  simp only [Option.getD_some]
  have hsplit:S.free=S.free.dropLast ++ [i]:=by
   obtain⟨ys,h2⟩:=XZ.1 e
   rw [h2];simp
  refine⟨fun x=>?_,?_,by simp only [dI];omega,rfl,rfl,rfl,fun k hk=>?_,fun h=>h.sublist (Yh _),fun k hk hl=>?_⟩
  ·show((S.slots.set i (some n))[x]?).join=_
   rw [dH]
   by_cases h:i=x
   ·subst h;rw [aC rfl,aC hil,aC rfl];rfl
   ·rw [ax h,ax (fun h'=>h h'.symm)];rfl
  ·unfold Tr.at;rw [hi];rfl
  ·have hk':k∈S.free.dropLast:=hk
   refine⟨(Yh _).subset hk',?_⟩
   rintro rfl
   rw [hsplit,jf] at hn
   exact hn.2.2 k hk' k (by simp) rfl
  ·show(S.slots.set i (some n))[k]? = _
   rw [jM (fun h=>hk h.symm)]
theorem Added.hd {S S':Tr}{s:Nat}{n:Nd}(h:Added S S' s n)(x:Nat):S'.hd x=S.hd x:=by unfold Tr.hd;rw [h.eb,h.es]
theorem Added.hO {S S':Tr}{s:Nat}{n:Nd}(h:Added S S' s n)(o:Option Nat):Go.Proofs.YtfelmdkeaacfeaaGreatDoor.W.hO S' o=Go.Proofs.YtfelmdkeaacfeaaGreatDoor.W.hO S o:=by cases o with
 | none=>rfl
 | some x=>exact h.hd x
def EW (d:Nat→Nat)(s:Nat)(x:Nat):Nat:=if x=s then 1 else d x
theorem Lk.added {S S':Tr}{K d}(h:Lk S K d){s:Nat}{n:Nd}(k:Added S S' s n)(h1:n.parent=0)(h2:n.first=0)(h3:n.last=0)(h4:n.prev=0)(h5:n.next=0)(hl:S.slots.length < 1000000):Lk S' K (EW d s):=by
 have hks:K s=[]:=h.wO k.no
 have hnp:∀p,s∉K p:=fun p=>h.DT k.no p
 have hat:∀x,x≠s→S'.at x=S.at x:=fun x hx=>by rw [k.at_,ax hx]
 have hne:∀p q,q∈K p→q≠s:=fun p q hq e=>hnp p (e ▸ hq)
 have hpe:∀p q,q∈K p→p≠s:=fun p q hq e=>by rw [e,hks] at hq;cases hq
 have hats:S'.at s=Option.some n:=by rw [k.at_,aC rfl]
 refine⟨fun p q hq=>?_,fun i m hi=>?_,fun p j q m hj hm=>?_,fun i m hi hp=>?_,h.nodup,fun p q hq=>?_,fun i hi hp=>?_,fun i=>?_,by have:=k.len;omega⟩
 ·rw [hat p (hpe p q hq),hat q (hne p q hq)];exact h.kin p q hq
 ·by_cases e:i=s
  ·subst e
   rw [hats] at hi;cases hi
   rw [h2,h3,hks];exact⟨rfl,rfl⟩
  ·rw [hat i e] at hi
   rw [k.hO,k.hO];exact h.node i m hi
 ·have hq:=ah hj
  rw [hat q (hne p q hq)] at hm
  rw [k.hd,k.hO,k.hO];exact h.kid p j q m hj hm
 ·by_cases e:i=s
  ·subst e
   rw [hats] at hi;cases hi
   exact⟨h1,h4,h5⟩
  ·rw [hat i e] at hi
   exact h.top i m hi hp
 ·unfold EW
  rw [ax (hne p q hq),ax (hpe p q hq)];exact h.qc p q hq
 ·unfold EW
  by_cases e:i=s
  ·rw [aC e]
  ·rw [ax e];rw [hat i e] at hi;exact h.one i hi hp
 ·unfold EW
  have:=h.low i
  split <;> omega
theorem zV.mono {c c':Nat}{n:Nd}(h:zV c n)(hc:c≤c'):zV c' n:=⟨h.kd,h.el,h.tx,h.dc,h.at_,h.nd,h.al,aQ h.dl (by omega),h.nl⟩
theorem iP.mono {c c':Nat}{S:Tr}{K d}(h:iP c S K d)(hc:c≤c'):iP c' S K d:=⟨h.lk,fun x n hx=>(h.nd x n hx).mono hc,h.J4,h.fr,h.rZ,h.root,h.doc,h.other,h.vN⟩
theorem Tw.mono {ex:Prop}{E:Nat→Prop}{c c':Nat}{S:Tr}{K:Nat→List Nat}{M:List MN}{σ : Nat→Nat}(h:Tw ex E c S K M σ)(hc:c≤c'):Tw ex E c' S K M σ :=
 ⟨h.node,h.kids,h.inj,h.zero,h.par,h.kid,h.top,h.cover,h.off,fun i m hi=>by have:=h.ma i m hi;omega,h.few⟩
theorem Tw.weak {ex ex':Prop}{E:Nat→Prop}{c:Nat}{S:Tr}{K:Nat→List Nat}{M:List MN}{σ : Nat→Nat}(h:Tw ex E c S K M σ)(he:ex'→ex):Tw ex' E c S K M σ :=
 ⟨fun i m hi=>by obtain⟨n,h1,h2,h3,h4,h5⟩:=h.node i m hi;exact⟨n,h1,h2,h3,h4,fun e=>h5 (he e)⟩,h.kids,h.inj,h.zero,h.par,h.kid,h.top,h.cover,h.off,h.ma,h.few⟩
section
variable {ex : Prop} {E : Nat → Prop} {c : Nat} {S S' : Tr} {K : Nat → List Nat} {d : Nat → Nat} {M : List MN} {σ : Nat → Nat}
theorem iP.added (T:iP c S K d){s:Nat}{n:Nd}(k:Added S S' s n)(h1:n.parent=0)(h2:n.first=0)(h3:n.last=0)(h4:n.prev=0)(h5:n.next=0)(hl:S.slots.length < 1000000)(hn:zV c n)(hk:n.kind≠1):iP c S' K (EW d s):=by
 have hs0:s≠0:=fun e=>by
  obtain⟨n0,h0,_⟩:=T.doc
  have:=k.no
  rw [e,h0] at this;cases this
 refine⟨T.lk.added k h1 h2 h3 h4 h5 hl,fun x m hx=>?_,fun p np hp=>?_,fun i hi=>?_,k.rZ T.rZ,by rw [k.root,k.hd];exact T.root,?_,fun x m hx h0=>?_,T.vN⟩
 ·rw [k.at_] at hx
  by_cases e:x=s
  ·rw [aC e] at hx;cases hx;exact hn
  ·rw [ax e] at hx;exact T.nd x m hx
 ·rw [k.at_] at hp
  by_cases e:p=s
  ·exact .inl (by rw [e];exact T.lk.wO k.no)
  ·rw [ax e] at hp
   rcases T.J4 p np hp with h | h | ⟨h6,h7,h8⟩
   ·exact .inl h
   ·exact .inr (.inl h)
   ·have hin:∀q m,q∈K p→S'.at q=some m→S.at q=some m:=fun q m hq hm=>by
     rw [k.at_,ax (fun(e2:q=s)=>T.lk.DT k.no p (e2 ▸ hq))] at hm;exact hm
    exact .inr (.inr ⟨h6,fun q m hq hm=>h7 q m hq (hin q m hq hm),fun q q' m m' a1 a2 a3 a4=>h8 q q' m m' a1 a2 (hin q m a1 a3) (hin q' m' a2 a4)⟩)
 ·obtain⟨h6,h7⟩:=k.free i hi
  have:=T.fr i h6
  rw [k.slot i h7 (ai.1 this).1];exact this
 ·obtain⟨n0,h0,h6⟩:=T.doc
  exact⟨n0,by rw [k.at_,ax (fun e=>hs0 e.symm)];exact h0,h6⟩
 ·rw [k.at_] at hx
  by_cases e:x=s
  ·rw [aC e] at hx;cases hx;exact hk
  ·rw [ax e] at hx;exact T.other x m hx h0
def BO (M:List MN)(σ : Nat→Nat)(s:Nat)(i:Nat):Nat:=if i=M.length then s else σ i
theorem Hg (M:List MN)(m:MN)(hg:m.gone=false)(i:Nat):lv (M ++ [m]) i=if i=M.length then some m else lv M i:=by
 unfold lv
 by_cases e:i=M.length
 ·subst e
  rw [aC rfl,bZ (au _),jY]
  simp [hg]
 ·rw [ax e]
  by_cases h:i < M.length
  ·rw [di h]
  ·rw [bQ (by simp;omega),bQ (by omega)]
theorem Tw.added (W:Tw ex E c S K M σ)(L:Lk S K d){s:Nat}{n:Nd}(k:Added S S' s n)(hE:¬E s){m:MN}(h1:n.kind=m.kind)(h2:n.name=m.name)(h3:n.data=m.data)(h4:n.attrs=m.attrs)(h5:m.par=none)(h6:m.kids=[])(h7:m.gone=false)(hm:m.attrs.length≤c+2)(hf:M.length < 10000) :
  Tw ex E c S' K (M ++ [m]) (BO M σ s):=by
 have hold:∀{i x},lv M i=some x→i≠M.length:=fun {i x} h e=>by have:=kH ⟨x,h⟩;omega
 have hσ : ∀{i x},lv M i=some x→BO M σ s i=σ i:=fun {i x} h=>by unfold BO;rw [ax (hold h)]
 have hs:∀{i x},lv M i=some x→σ i≠s:=fun {i x} h e=>by
  obtain⟨y,hy,_⟩:=W.node i x h
  rw [e,k.no] at hy;cases hy
 have hnew:BO M σ s M.length=s:=by unfold BO;rw [aC rfl]
 have hlv:=Hg M m h7
 have hup:∀{i x},lv M i=some x→lv (M ++ [m]) i=some x:=fun {i x} h=>by rw [hlv,ax (hold h)];exact h
 have cases':∀{i x},lv (M ++ [m]) i=some x→(i=M.length∧x=m)∨lv M i=some x:=fun {i x} h=>by
  rw [hlv] at h
  by_cases e:i=M.length
  ·rw [aC e] at h;cases h;exact .inl ⟨e,rfl⟩
  ·rw [ax e] at h;exact .inr h
 refine⟨fun i x hi=>?_,fun i x hi=>?_,fun i j x y hi hj e=>?_,?_,fun i x p hi hp=>?_,fun p x q hp hq=>?_,fun i x hi hp q=>?_,fun x hx=>?_,fun i x hi=>?_,fun i x hi=>?_,by simp;omega⟩
 ·rcases cases' hi with ⟨rfl,rfl⟩ | h
  ·exact⟨n,by rw [hnew,k.at_,aC rfl],h1,h2,h3,fun _=>h4⟩
  ·obtain⟨y,hy,rest⟩:=W.node i x h
   exact⟨y,by rw [hσ h,k.at_,ax (hs h)];exact hy,rest⟩
 ·rcases cases' hi with ⟨rfl,rfl⟩ | h
  ·rw [hnew,h6,L.wO k.no];rfl
  ·rw [hσ h,W.kids i x h]
   refine fM (fun q hq=>?_)
   obtain⟨y,hy,_⟩:=W.kid i x q h hq
   exact(hσ hy).symm
 ·rcases cases' hi with ⟨rfl,rfl⟩ | h
  ·rcases cases' hj with ⟨rfl,rfl⟩ | h'
   ·rfl
   ·rw [hnew,hσ h'] at e;exact absurd e.symm (hs h')
  ·rcases cases' hj with ⟨rfl,rfl⟩ | h'
   ·rw [hnew,hσ h] at e;exact absurd e (hs h)
   ·rw [hσ h,hσ h'] at e;exact W.inj i j x y h h' e
 ·obtain⟨z,m0,hz⟩:=W.zero
  exact⟨by rw [hσ hz];exact z,m0,hup hz⟩
 ·rcases cases' hi with ⟨rfl,rfl⟩ | h
  ·rw [h5] at hp;cases hp
  ·obtain⟨y,hy,hm⟩:=W.par i x p h hp
   exact⟨y,hup hy,hm⟩
 ·rcases cases' hp with ⟨rfl,rfl⟩ | h
  ·rw [h6] at hq;cases hq
  ·obtain⟨y,hy,hm⟩:=W.kid p x q h hq
   exact⟨y,hup hy,hm⟩
 ·rcases cases' hi with ⟨rfl,rfl⟩ | h
  ·rw [hnew];exact L.DT k.no q
  ·rw [hσ h];exact W.top i x h hp q
 ·rw [k.at_] at hx
  by_cases e:x=s
  ·exact .inr ⟨M.length,m,by rw [hlv,aC rfl],by rw [hnew,e]⟩
  ·rw [ax e] at hx
   rcases W.cover x hx with h | ⟨i,y,hy,e2⟩
   ·exact .inl h
   ·exact .inr ⟨i,y,hup hy,by rw [hσ hy];exact e2⟩
 ·rcases cases' hi with ⟨rfl,rfl⟩ | h
  ·rw [hnew];exact hE
  ·rw [hσ h];exact W.off i x h
 ·rcases cases' hi with ⟨rfl,rfl⟩ | h
  ·exact hm
  ·exact W.ma i x h
/-! ### links -/
theorem uo {M:List MN}{p j c x:Nat}{m:MN}(h:lv M x=some m):lv (oU M p j c) x=some { m with kids:=if x=p then m.kids.take j ++ c :: m.kids.drop j else m.kids,par:=if x=c then some p else m.par }:=by
 obtain⟨h1,h2⟩:=lV h
 refine DX ?_ h2
 unfold oU
 rw [dB,h1]
 rfl
theorem nC {M:List MN}{p j c x:Nat}{m:MN}(h:lv (oU M p j c) x=some m):∃m0,lv M x=some m0∧m={ m0 with kids:=if x=p then m0.kids.take j ++ c :: m0.kids.drop j else m0.kids,par:=if x=c then some p else m0.par }:=by
 obtain⟨h1,h2⟩:=lV h
 unfold oU at h1
 rw [dB,bJ] at h1
 obtain⟨m0,h3,rfl⟩:=h1
 exact⟨m0,DX h3 h2,rfl⟩
theorem oG {M:List MN}{p j c x:Nat}{m:MN}(h:lv (uH M p j c) x=some m):∃m0,lv M x=some m0∧m={ m0 with kids:=if x=p then m0.kids.eraseIdx j else m0.kids,par:=if x=c then none else m0.par }:=by
 obtain⟨h1,h2⟩:=lV h
 unfold uH at h1
 rw [dB,bJ] at h1
 obtain⟨m0,h3,rfl⟩:=h1
 exact⟨m0,DX h3 h2,rfl⟩
theorem xI {α β : Type}(f:α→β):∀(l:List α) (j:Nat),(l.eraseIdx j).map f=(l.map f).eraseIdx j
 | [],_=>by simp
 | x :: l,0=>by simp
 | x :: l,j+1=>by simp [xI f l j]
theorem Tw.link (W:Tw ex E c S K M σ){p x j:Nat}{mp mx:MN}(hp:lv M p=some mp)(hx:lv M x=some mx)(hpar:mx.par=none)(hk:Linked S S' (K (σ p)) (σ p) j (σ x)):Tw ex E c S' (jK K (σ p) j (σ x)) (oU M p j x) σ:=by
 have hpx:p≠x→σ p≠σ x:=fun h e=>h (W.inj p x mp mx hp hx e)
 have hnot:∀q mq,lv M q=some mq→x∉mq.kids:=fun q mq hq h=>by
  obtain⟨y,h1,h2⟩:=W.kid q mq x hq h
  rw [hx] at h1;cases h1;rw [hpar] at h2;cases h2
 refine⟨fun i m hi=>?_,fun i m hi=>?_,fun i k mi mk hi hk' e=>?_,?_,fun i m q hi hq=>?_,fun q mq k hq hk'=>?_,fun i m hi hm q=>?_,fun y hy=>?_,fun i m hi=>?_,fun i m hi=>?_,by unfold oU;rw [gQ];exact W.few⟩
 ·obtain⟨m0,h0,rfl⟩:=nC hi
  obtain⟨n,hn,h1,h2,h3,h4⟩:=W.node i m0 h0
  exact⟨jI S (K (σ p)) (σ p) j (σ x) (σ i) n,by rw [hk.at_,hn];rfl,h1,h2,h3,h4⟩
 ·obtain⟨m0,h0,rfl⟩:=nC hi
  unfold jK
  by_cases e:i=p
  ·subst e
   rw [hp] at h0;cases h0
   simp only [oW,W.kids i mp hp,ig,fE,Yc,Yd]
  ·have:σ i≠σ p:=fun h=>e (W.inj i p m0 mp h0 hp h)
   simp only [this,e,iJ]
   exact W.kids i m0 h0
 ·obtain⟨m0,h0,rfl⟩:=nC hi
  obtain⟨m1,h1,rfl⟩:=nC hk'
  exact W.inj i k m0 m1 h0 h1 e
 ·obtain⟨z,m0,hz⟩:=W.zero
  exact⟨z,_,uo hz⟩
 ·obtain⟨m0,h0,rfl⟩:=nC hi
  simp only at hq
  by_cases e:i=x
  ·subst e
   rw [aC rfl] at hq;cases hq
   exact⟨_,uo hp,by simp⟩
  ·rw [ax e] at hq
   obtain⟨mq,h1,h2⟩:=W.par i m0 q h0 hq
   refine⟨_,uo h1,?_⟩
   simp only
   split
   ·have:=h2
    rw [← bG j mq.kids] at this
    rcases cZ.1 this with h | h
    ·exact qj _ h
    ·exact uV _ (gX _ h)
   ·exact h2
 ·obtain⟨m0,h0,rfl⟩:=nC hq
  simp only at hk'
  have hmem:k=x∧q=p∨k∈m0.kids:=by
   split at hk'
   ·rename_i e
    rcases cZ.1 hk' with h | h
    ·exact .inr (kE h)
    ·rcases bn.1 h with h | h
     ·exact .inl ⟨h,e⟩
     ·exact .inr (kF h)
   ·exact .inr hk'
  rcases hmem with ⟨rfl,rfl⟩ | h
  ·exact⟨_,uo hx,by simp⟩
  ·obtain⟨mk,h1,h2⟩:=W.kid q m0 k h0 h
   have hkx:k≠x:=fun e=>hnot q m0 h0 (e ▸ h)
   exact⟨_,uo h1,by simp only [hkx,iJ];exact h2⟩
 ·obtain⟨m0,h0,rfl⟩:=nC hi
  simp only at hm
  by_cases e:i=x
  ·rw [aC e] at hm;cases hm
  ·rw [ax e] at hm
   have hne:σ i≠σ x:=fun h=>e (W.inj i x m0 mx h0 hx h)
   unfold jK
   split
   ·intro h
    rcases cZ.1 h with h | h
    ·exact W.top i m0 h0 hm _ (kE h)
    ·rcases bn.1 h with h | h
     ·exact hne h
     ·exact W.top i m0 h0 hm _ (kF h)
   ·exact W.top i m0 h0 hm q
 ·rw [hk.at_,XE] at hy
  rcases W.cover y hy with h | ⟨i,m,h1,h2⟩
  ·exact .inl h
  ·exact .inr ⟨i,_,uo h1,h2⟩
 ·obtain⟨m0,h0,rfl⟩:=nC hi
  exact W.off i m0 h0
 ·obtain⟨m0,h0,rfl⟩:=nC hi
  exact W.ma i m0 h0
theorem Tw.cut (W:Tw ex E c S K M σ)(L:Lk S K d){q x j:Nat}{mq mx:MN}(hq:lv M q=some mq)(hx:lv M x=some mx)(hpar:mx.par=some q)(hj:mq.kids[j]? = some x)(hk:yI S S' (K (σ q)) (σ q) j (σ x)):Tw ex E c S' (mP K (σ q) j) (uH M q j x) σ:=by
 have hj':(K (σ q))[j]? = some (σ x):=by rw [W.kids q mq hq,bI,hj];rfl
 have hmem:=fun a b=>uG L hj' a b
 have hnd:mq.kids.Nodup:=(W.mw L).nd q mq hq
 have hmk:∀k,k∈mq.kids.eraseIdx j↔(k∈mq.kids∧k≠x):=fun k=>by
  rw [nJ]
  constructor
  ·rintro⟨i,h1,h2⟩
   refine⟨ah h2,fun e=>h1 ?_⟩
   subst e
   exact(iK (by have:=(ai.1 h2).1;omega) hnd).1 (h2.trans hj.symm)
  ·rintro⟨h1,h2⟩
   obtain⟨i,hi⟩:=aI.1 h1
   exact⟨i,fun e=>by subst e;rw [hj] at hi;cases hi;exact h2 rfl,hi⟩
 refine⟨fun i m hi=>?_,fun i m hi=>?_,fun i k mi mk hi hk' e=>?_,?_,fun i m p hi hp=>?_,fun p mp k hp hk'=>?_,fun i m hi hm p=>?_,fun y hy=>?_,fun i m hi=>?_,fun i m hi=>?_,by unfold uH;rw [gQ];exact W.few⟩
 ·obtain⟨m0,h0,rfl⟩:=oG hi
  obtain⟨n,hn,h1,h2,h3,h4⟩:=W.node i m0 h0
  exact⟨yt S (K (σ q)) (σ q) j (σ x) (σ i) n,by rw [hk.at_,hn];rfl,h1,h2,h3,h4⟩
 ·obtain⟨m0,h0,rfl⟩:=oG hi
  unfold mP
  by_cases e:i=q
  ·subst e
   rw [hq] at h0;cases h0
   simp only [oW,W.kids i mq hq,xI]
  ·have:σ i≠σ q:=fun h=>e (W.inj i q m0 mq h0 hq h)
   simp only [this,e,iJ]
   exact W.kids i m0 h0
 ·obtain⟨m0,h0,rfl⟩:=oG hi
  obtain⟨m1,h1,rfl⟩:=oG hk'
  exact W.inj i k m0 m1 h0 h1 e
 ·obtain⟨z,m0,hz⟩:=W.zero
  exact⟨z,_,uq hz⟩
 ·obtain⟨m0,h0,rfl⟩:=oG hi
  simp only at hp
  by_cases e:i=x
  ·rw [aC e] at hp;cases hp
  ·rw [ax e] at hp
   obtain⟨mp,h1,h2⟩:=W.par i m0 p h0 hp
   refine⟨_,uq h1,?_⟩
   simp only
   split
   ·rename_i e2
    subst e2
    rw [hq] at h1;cases h1
    exact(hmk i).2 ⟨h2,e⟩
   ·exact h2
 ·obtain⟨m0,h0,rfl⟩:=oG hp
  simp only at hk'
  have h1:k∈m0.kids∧k≠x:=by
   split at hk'
   ·rename_i e2
    subst e2
    rw [hq] at h0;cases h0
    exact(hmk k).1 hk'
   ·rename_i e2
    refine⟨hk',fun e=>?_⟩
    subst e
    obtain⟨y,h3,h4⟩:=W.kid p m0 k h0 hk'
    rw [hx] at h3;cases h3
    rw [hpar] at h4;cases h4
    exact e2 rfl
  obtain⟨mk,h3,h4⟩:=W.kid p m0 k h0 h1.1
  exact⟨_,uq h3,by simp only [h1.2,iJ];exact h4⟩
 ·obtain⟨m0,h0,rfl⟩:=oG hi
  simp only at hm
  intro h
  rw [hmem] at h
  by_cases e:i=x
  ·exact h.2 (by rw [e])
  ·rw [ax e] at hm
   exact W.top i m0 h0 hm p h.1
 ·rw [hk.at_,XE] at hy
  rcases W.cover y hy with h | ⟨i,m,h1,h2⟩
  ·exact .inl h
  ·exact .inr ⟨i,_,uq h1,h2⟩
 ·obtain⟨m0,h0,rfl⟩:=oG hi
  exact W.off i m0 h0
 ·obtain⟨m0,h0,rfl⟩:=oG hi
  exact W.ma i m0 h0
/-! ### contents -/
theorem Tw.put (W:Tw ex E c S K M σ){i:Nat}{m m':MN}{n n':Nd}(hi:lv M i=some m)(hn:S.at (σ i)=some n)(h1:n'.kind=m'.kind)(h2:n'.name=m'.name)(h3:n'.data=m'.data)(h4:ex→n'.attrs=m'.attrs)(h5:m'.par=m.par)(h6:m'.kids=m.kids)(h7:m'.gone=false)(hm:m'.attrs.length≤c+2) :
  Tw ex E c (S.put (σ i) n') K (M.set i m') σ:=by
 have hl:i < M.length:=kH ⟨m,hi⟩
 have hlv:∀x,lv (M.set i m') x=if x=i then some m' else lv M x:=fun x=>by
  unfold lv
  rw [dH]
  by_cases e:i=x
  ·subst e;rw [aC rfl,aC hl,aC rfl];simp [h7]
  ·rw [ax e,ax (fun h=>e h.symm)]
 have back:∀{x y},lv (M.set i m') x=some y→∃y0,lv M x=some y0∧y.par=y0.par∧y.kids=y0.kids:=fun {x y} h=>by
  rw [hlv] at h
  by_cases e:x=i
  ·subst e;rw [aC rfl] at h;cases h;exact⟨m,hi,h5,h6⟩
  ·rw [ax e] at h;exact⟨y,h,rfl,rfl⟩
 have up:∀{x y0},lv M x=some y0→∃y,lv (M.set i m') x=some y∧y.par=y0.par∧y.kids=y0.kids:=fun {x y0} h=>by
  rw [hlv]
  by_cases e:x=i
  ·subst e;rw [hi] at h;cases h;exact⟨m',by rw [aC rfl],h5,h6⟩
  ·exact⟨y0,by rw [ax e];exact h,rfl,rfl⟩
 refine⟨fun x y hx=>?_,fun x y hx=>?_,fun x y a b hx hy e=>?_,?_,fun x y p hx hp=>?_,fun p y k hp hk=>?_,fun x y hx hp q=>?_,fun x hx=>?_,fun x y hx=>?_,fun x y hx=>?_,by rw [dI];exact W.few⟩
 ·rw [dC hn]
  rw [hlv] at hx
  by_cases e:x=i
  ·subst e
   rw [aC rfl] at hx;cases hx
   exact⟨n',by rw [aC rfl],h1,h2,h3,h4⟩
  ·rw [ax e] at hx
   have:σ x≠σ i:=fun h=>e (W.inj x i y m hx hi h)
   rw [ax this];exact W.node x y hx
 ·obtain⟨y0,h8,_,h9⟩:=back hx
  rw [h9];exact W.kids x y0 h8
 ·obtain⟨x0,h8,_⟩:=back hx
  obtain⟨y0,h9,_⟩:=back hy
  exact W.inj x y x0 y0 h8 h9 e
 ·obtain⟨z,m0,hz⟩:=W.zero
  obtain⟨y,hy,_⟩:=up hz
  exact⟨z,y,hy⟩
 ·obtain⟨y0,h8,h9,_⟩:=back hx
  rw [h9] at hp
  obtain⟨mp,h10,h11⟩:=W.par x y0 p h8 hp
  obtain⟨yp,h12,_,h13⟩:=up h10
  exact⟨yp,h12,by rw [h13];exact h11⟩
 ·obtain⟨y0,h8,_,h9⟩:=back hp
  rw [h9] at hk
  obtain⟨mk,h10,h11⟩:=W.kid p y0 k h8 hk
  obtain⟨yk,h12,h13,_⟩:=up h10
  exact⟨yk,h12,by rw [h13];exact h11⟩
 ·obtain⟨y0,h8,h9,_⟩:=back hx
  rw [h9] at hp
  exact W.top x y0 h8 hp q
 ·rw [dC hn] at hx
  have hx':(S.at x).isSome=true:=by
   by_cases e:x=σ i
   ·rw [e,hn];rfl
   ·rw [ax e] at hx;exact hx
  rcases W.cover x hx' with h | ⟨k,y0,h8,h9⟩
  ·exact .inl h
  ·obtain⟨y,h10,_⟩:=up h8
   exact .inr ⟨k,y,h10,h9⟩
 ·obtain⟨y0,h8,_⟩:=back hx
  exact W.off x y0 h8
 ·rw [hlv] at hx
  by_cases e:x=i
  ·rw [aC e] at hx;cases hx;exact hm
  ·rw [ax e] at hx;exact W.ma x y hx
theorem iP.put (T:iP c S K d){i:Nat}{n n':Nd}(hi:S.at i=some n)(h0:n'.kind=n.kind)(h1:n'.parent=n.parent)(h2:n'.first=n.first)(h3:n'.last=n.last)(h4:n'.prev=n.prev)(h5:n'.next=n.next)(hn:zV c n'):iP c (S.put i n') K d:=by
 have back:∀{x m},(S.put i n').at x=some m→∃m0,S.at x=some m0∧m0.kind=m.kind:=fun {x m} hx=>by
  rw [dC hi] at hx
  by_cases e:x=i
  ·subst e;rw [aC rfl] at hx;cases hx;exact⟨n,hi,h0.symm⟩
  ·rw [ax e] at hx;exact⟨m,hx,rfl⟩
 have hil:=iy hi
 refine⟨T.lk.put hi h1 h2 h3 h4 h5,fun x m hx=>?_,fun p np hp=>?_,fun k hk=>?_,T.rZ,T.root,?_,fun x m hx h0'=>?_,T.vN⟩
 ·rw [dC hi] at hx
  by_cases e:x=i
  ·rw [aC e] at hx;cases hx;exact hn
  ·rw [ax e] at hx;exact T.nd x m hx
 ·obtain⟨m0,h6,h7⟩:=back hp
  exact(T.J4 p m0 h6).sub h7.symm (fun k hk=>hk) (fun k n'' hk=>back hk)
 ·have:=T.fr k hk
  show(S.slots.set i (some n'))[k]? = some none
  rw [jM (fun e=>by subst e;rw [dN hi] at this;cases this)];exact this
 ·obtain⟨n0,h6,h7⟩:=T.doc
  by_cases e:(0:Nat)=i
  ·subst e
   rw [hi] at h6;cases h6
   exact⟨n',by rw [dC hi,aC rfl],h0.trans h7⟩
  ·exact⟨n0,by rw [dC hi,ax e];exact h6,h7⟩
 ·obtain⟨m0,h6,h7⟩:=back hx
  rw [← h7];exact T.other x m0 h6 h0'
theorem iP.map (T:iP c S K d){K':Nat→List Nat}{d':Nat→Nat}(f:Nat→Nd→Nd)(hf:Gv f)(hnm:∀x n,(f x n).name=n.name)(hat:∀x,S'.at x=(S.at x).map (f x))(hb:S'.b=S.b)(hs:S'.s=S.s)(hfr:S'.free=S.free)(hr:S'.root=S.root)(hl:S'.slots.length=S.slots.length)(hL:Lk S' K' d')
  (hfam:∀p np,S.at p=some np→BJ S' (K' p) (f p np))(hz:∀p,0∉K' p):iP c S' K' d':=by
 have back:∀{i n'},S'.at i=some n'→∃n,S.at i=some n∧n'=f i n:=fun {i n'} hi=>by
  rw [hat] at hi
  obtain⟨n,hn,rfl⟩:=bJ.1 hi
  exact⟨n,hn,rfl⟩
 refine⟨hL,fun x n' hx=>?_,fun p n' hp=>?_,fun i hi=>?_,by rw [hfr];exact T.rZ,by rw [hr];unfold Tr.hd;rw [hb,hs];exact T.root,?_,fun x n' hx h0=>?_,hz⟩
 ·obtain⟨n,hn,rfl⟩:=back hx
  obtain⟨k1,k2,k3,k4⟩:=hf x n
  have h:=T.nd x n hn
  exact⟨by rw [k1];exact h.kd,by rw [k1,k4,hnm];exact h.el,by rw [k1,k4,hnm,k3];exact h.tx,by rw [k1,k4,hnm,k3];exact h.dc,by rw [k3];exact h.at_,by rw [k3];exact h.nd,by rw [k3];exact h.al,by rw [k4];exact h.dl,by rw [hnm];exact h.nl⟩
 ·obtain⟨n,hn,rfl⟩:=back hp
  exact hfam p n hn
 ·rw [hfr] at hi
  have h1:=T.fr i hi
  have h2:S.at i=none:=by unfold Tr.at;rw [h1];rfl
  have h3:S'.at i=none:=by rw [hat,h2];rfl
  have h4:i < S'.slots.length:=by rw [hl];exact(ai.1 h1).1
  unfold Tr.at at h3
  rw [ay h4] at h3 ⊢
  generalize S'.slots[i]=y at h3 ⊢
  cases y with
  | none=>rfl
  | some n=>cases h3
 ·obtain⟨n0,h1,h2⟩:=T.doc
  exact⟨f 0 n0,by rw [hat,h1];rfl,by rw [(hf 0 n0).1];exact h2⟩
 ·obtain⟨n,hn,rfl⟩:=back hx
  rw [(hf x n).1];exact T.other x n hn h0
end
def hM (S:Tr)(σ : Nat→Nat)(v:Int):Int:=if v < 0 then 0 else S.hd (σ v.toNat)
theorem Qq (S:Tr)(σ : Nat→Nat)(o:Option Nat):hM S σ (pI o)=hO S (o.map σ):=by
 cases o with
 | none=>unfold hM pI;simp [hO]
 | some i=>show(if(i:Int) < 0 then 0 else S.hd (σ (i:Int).toNat))=S.hd (σ i);rw [ax (by omega),Int.toNat_natCast]
theorem A8 (S:Tr)(σ : Nat→Nat)(i:Nat):hM S σ (i:Int)=S.hd (σ i):=by unfold hM;rw [ax (by omega),Int.toNat_natCast]
def vC (S:Tr)(σ : Nat→Nat)(r:Rc):Rc:={ r with target:=hM S σ r.target,node:=hM S σ r.node,prev:=hM S σ r.prev,next:=hM S σ r.next }
theorem KN (σ : Nat→Nat)(l:List Nat)(j:Nat):pv (l.map σ) j=(pv l j).map σ:=by
 unfold pv;split
 ·rfl
 ·rw [bI]
section
variable {ex : Prop} {E : Nat → Prop} {c : Nat} {S S' : Tr} {K K' : Nat → List Nat} {d d' : Nat → Nat} {M M' : List MN} {σ : Nat → Nat}
theorem Qe (S S1:Tr)(l l1:List Nat)(q i p j x:Nat):Gv (fun y n=>jI S1 l1 p j x y (yt S l q i x y n)):=fun _ _=>⟨rfl,rfl,rfl,rfl⟩
theorem wR {K:Nat→List Nat}{p j x q k:Nat}(h:k∈jK K p j x q):k∈K q∨(q=p∧k=x):=by
 unfold jK at h
 split at h
 ·rename_i e
  rcases cZ.1 h with h | h
  ·exact .inl (e ▸ kE h)
  ·rcases bn.1 h with h | h
   ·exact .inr ⟨e,h⟩
   ·exact .inl (e ▸ kF h)
 ·exact .inl h
theorem vX {K:Nat→List Nat}{p j q k:Nat}(h:k∈mP K p j q):k∈K q:=by
 unfold mP at h
 split at h
 ·rename_i e;exact e ▸ Ya h
 ·exact h
theorem iP.cut (T:iP c S K d){q i x:Nat}(hj:(K q)[i]? = some x)(hk:yI S S' (K q) q i x):iP c S' (mP K q i) (zQ S d x):=by
 refine T.map (yt S (K q) q i x) (AU S (K q) q i x) (fun _ _=>rfl) hk.at_ hk.b hk.s hk.free hk.root hk.len (T.lk.cut' hj hk) (fun p np hp=>?_) (fun p h=>T.vN p (vX h))
 refine(T.J4 p np hp).sub rfl (fun k h=>vX h) (fun k n' hn=>?_)
 rw [hk.at_] at hn
 obtain⟨n,h1,rfl⟩:=bJ.1 hn
 exact⟨n,h1,rfl⟩
theorem iP.ins (T:iP c S K d){p x:Nat}{o:Option Nat}{np nx:Nd}{l:List (List Value)}(hp:S.at p=some np)(hx:S.at x=some nx)(hmay:nU S K d p x np nx=true)(h:Iw S K x p o nx S' K' l)(L':Lk S' K' d'):iP c S' K' d':=by
 have hx0:x≠0:=fun e=>by
  obtain⟨n0,h1,h2⟩:=T.doc
  subst e
  rw [hx] at h1;cases h1
  exact(FY hmay).1 h2
 have key:∀(f:Nat→Nd→Nd),Gv f→(∀y n,(f y n).name=n.name)→(∀y,S'.at y=(S.at y).map (f y))→S'.b=S.b→S'.s=S.s→S'.free=S.free→S'.root=S.root→S'.slots.length=S.slots.length→(∀q k,k∈K' q→k∈K q∨(q=p∧k=x))→iP c S' K' d':=by
  intro f hf hnm hat hb hs hfr hr hl hmem
  refine T.map f hf hnm hat hb hs hfr hr hl L' (fun q nq hq=>?_) (fun q h=>?_)
  ·have hback:∀k n',S'.at k=some n'→∃n,S.at k=some n∧n.kind=n'.kind:=fun k n' hn=>by
    rw [hat] at hn
    obtain⟨n,h1,rfl⟩:=bJ.1 hn
    exact⟨n,h1,(hf k n).1.symm⟩
   by_cases e:q=p
   ·subst e
    rw [hp] at hq;cases hq
    exact(T.J4 q np hp).add hmay hx (hf q np).1 (fun k h=>(hmem q k h).elim .inr (fun h=>.inl h.2)) hback
   ·exact(T.J4 q nq hq).sub (hf q nq).1 (fun k h=>(hmem q k h).resolve_right (fun h=>e h.1)) hback
  ·rcases hmem q 0 h with h | ⟨_,h⟩
   ·exact T.vN q h
   ·exact hx0 h.symm
 cases h with
 | det j h1 h2 h3 h4 h5 =>
  subst h4
  exact key (jI S (K p) p j x) (uw S (K p) p j x) (fun _ _=>rfl) h3.at_ h3.b h3.s h3.free h3.root h3.len (fun q k h=>wR h)
 | sF q i j S1 o' h1 h2 h3 h4 h5 h6 h7 =>
  subst h6
  refine key (fun y n=>jI S1 (mP K q i p) p j x y (yt S (K q) q i x y n)) (Qe _ _ _ _ _ _ _ _ _) (fun _ _=>rfl) (fun y=>?_) (h5.b.trans h2.b) (h5.s.trans h2.s) (h5.free.trans h2.free) (h5.root.trans h2.root) (h5.len.trans h2.len) (fun q' k h=>(wR h).imp (fun h=>vX h) id)
  rw [h5.at_,h2.at_]
  cases S.at y <;> rfl
theorem Jc {l:List Nat}{σ : Nat→Nat}{K:Nat→List Nat}{p:Nat}{o:Option Nat}{j j':Nat}(hK:K p=l.map σ)(hnd:(K p).Nodup)(h:Place K p (o.map σ) j)(h':(o=none∧j'=l.length)∨(∃b,o=some b∧l[j']? = some b)):j=j':=by
 rcases h with ⟨e,rfl⟩ | ⟨b,e,hb⟩
 ·rcases h' with ⟨_,rfl⟩ | ⟨b,rfl,_⟩
  ·rw [hK,bM]
  ·cases e
 ·rcases h' with ⟨rfl,_⟩ | ⟨b',rfl,hb'⟩
  ·cases e
  ·cases e
   have h2:(K p)[j']? = some (σ b'):=by rw [hK,bI,hb'];rfl
   exact(iK (by have:=(ai.1 hb).1;omega) hnd).1 (hb.trans h2.symm)
theorem FI {l:List Nat}{o:Option Nat}{j:Nat}(h:(o=none∧j=l.length)∨(∃b,o=some b∧l[j]? = some b)):l[j]? = o:=by
 rcases h with ⟨rfl,rfl⟩ | ⟨b,rfl,h⟩
 ·exact bQ (au _)
 ·exact h
theorem Tw.ins (W:Tw ex E c S K M σ)(T:iP c S K d){p x:Nat}{mp mx:MN}{o:Option Nat}{np nx:Nd}{l:List (List Value)}{rs:List Rc}(hp:lv M p=some mp)(hx:lv M x=some mx)(hnp:S.at (σ p)=some np)(hnx:S.at (σ x)=some nx)(hmay:nU S K d (σ p) (σ x) np nx=true)
  (ho:∀b,o=some b→∃mb,lv M b=some mb∧mb.par=some p)
  (h:Iw S K (σ x) (σ p) (o.map σ) nx S' K' l)(h':JX M p x o mx M' rs):Tw ex E c S' K' M' σ∧l=rs.map (fun r=>encR (vC S σ r))∧S'.b=S.b∧S'.s=S.s:=by
 have L:=T.lk
 cases h with
 | det j h1 h2 h3 h4 h5 =>
  cases h' with
  | sF q i j' mq mp' o' g1 g2 g3 g4 g5 g6 =>
   exact absurd (show σ x∈K (σ q) by rw [W.kids q mq g2];exact bC.2 ⟨x,ah g3,rfl⟩) (h1 _)
  | det mp' j' g1 g2 g3 =>
   rw [hp] at g2;cases g2
   have g3':(o=none∧j'=mp.kids.length)∨(∃b,o=some b∧mp.kids[j']? = some b):=g3.imp id (fun⟨b,a1,_,a2⟩=>⟨b,a1,a2⟩)
   have hjj:=Jc (W.kids p mp hp) (L.nodup _) h2 g3'
   subst hjj
   subst h4
   refine⟨W.link hp hx g1 h3,?_,h3.b,h3.s⟩
   rw [h5]
   simp only [fE,jZ,vC,Ti,encR,Qq,A8,FI g3',W.kids p mp hp,KN]
 | sF q i j S1 o' h1 h2 h3 h4 h5 h6 h7 =>
  cases h' with
  | det mp' j' g1 g2 g3=>exact absurd (ah h1) (W.top x mx hx g1 q)
  | sF q' i' j' mq mp' o'' g1 g2 g3 g4 g5 g6 =>
   have hm:σ x∈K (σ q'):=by rw [W.kids q' mq g2];exact bC.2 ⟨x,ah g3,rfl⟩
   have hq:q=σ q':=L.rD (ah h1) hm
   subst hq
   have hi:i'=i:=L.inj h1 (by rw [W.kids q' mq g2,bI,g3];rfl)
   subst hi
   have W1:=W.cut L g2 hx g1 g3 h2
   have L1:=L.cut' h1 h2
   have hx1:=uq (p:=q') (j:=i') (c:=x) hx
   have ho':o'=o''.map σ:=by
    rw [h3,g5]
    cases o with
    | none=>simp
    | some b =>
     obtain⟨mb,hb,hbp⟩:=ho b rfl
     by_cases e:b=x
     ·subst e
      simp only [Option.map_some,oW]
      rw [W.kids q' mq g2,bI]
     ·have:σ b≠σ x:=fun h=>e (W.inj b x mb mx hb hx h)
      simp [e,this]
   subst ho'
   have g6':(o''=none∧j'=mp'.kids.length)∨(∃b,o''=some b∧mp'.kids[j']? = some b):=g6.imp id (fun⟨b,a1,_,a2⟩=>⟨b,a1,a2⟩)
   have hjj:=Jc (W1.kids p mp' g4) (L1.nodup _) h4 g6'
   subst hjj
   subst h6
   have hhd:∀y,S1.hd y=S.hd y:=h2.hd
   have hhO:∀o,hO S1 o=hO S o:=Lu h2
   refine⟨W1.link g4 hx1 (by simp) h5,?_,h5.b.trans h2.b,h5.s.trans h2.s⟩
   obtain⟨_,k2,k3⟩:=L.kid (σ q') i' (σ x) nx h1 hnx
   have k2':nx.prev=hO S (pv (K (σ q')) i'):=k2
   rw [h7,k2',k3]
   simp only [fE,jZ,vC,Ti,Ub,encR,Qq,A8,FI g6',W.kids q' mq g2,W1.kids p mp' g4,KN,bI]
end
def dR (K:Nat→List Nat):Nat→Nat→List Nat
 | 0,i=>[i]
 | f+1,i=>i :: (K i).flatMap (dR K f)
theorem iU {α β : Type}{l:List α}{j:Nat}{k:α}(h:l[j]? = some k)(f:α→List β):(l.take (j+1)).flatMap f=(l.take j).flatMap f ++ f k:=by
 rw [fJ,h,jT];simp
theorem CB (K:Nat→List Nat)(f i:Nat):1≤(dR K f i).length:=by cases f <;> simp [dR]
theorem DR {α : Type}(f:Nat→List α):∀l:List Nat,l.Nodup→(∀x∈l,(f x).Nodup)→(∀x∈l,∀y∈l,x≠y→∀z,z∈f x→z∉f y)→(l.flatMap f).Nodup
 | [],_,_,_=>by simp
 | x :: l,h1,h2,h3=>by
  rw [o8] at h1
  rw [eG,jf]
  refine⟨h2 x (by simp),DR f l h1.2 (fun y hy=>h2 y (by simp [hy])) (fun a ha b hb=>h3 a (by simp [ha]) b (by simp [hb])),?_⟩
  rintro a ha b hb rfl
  obtain⟨y,hy,hb⟩:=bT.1 hb
  exact h3 x (by simp) y (by simp [hy]) (fun e=>h1.1 (e ▸ hy)) a ha hb
section
variable {S : Tr} {K : Nat → List Nat} {d : Nat → Nat}
theorem Lk.NY (h:Lk S K d)(x:Nat):(∃q,x∈K q)∨∀q,x∉K q:=by
 by_cases e:∃q,x∈K q
 ·exact .inl e
 ·exact .inr (fun q hq=>e ⟨q,hq⟩)
theorem sub_le (h:Lk S K d){a x:Nat}(hx:(S.at x).isSome=true)(hs:lH S d a x=true):d a≤d x:=(tH h (d x) x rfl hx hs).1
theorem Fq (h:Lk S K d){a b:Nat}:∀(n x:Nat),d x=n→(S.at x).isSome=true→lH S d a b=true→lH S d b x=true→lH S d a x=true
 | n,x,hn,hx,h1,h2=>by
  rcases h.NY x with ⟨q,hq⟩ | ht
  ·have hd:=h.qc q x hq
   have e1:=mG h hq b
   have e2:=mG h hq a
   rw [e1] at h2
   rw [e2]
   by_cases hbx:b=x
   ·subst hbx
    rw [e2] at h1;exact h1
   ·have h3:lH S d b q=true:=by
     have:(b == x)=false:=eY.2 hbx
     rw [this] at h2;simpa using h2
    have:=Fq h (d q) q rfl (h.kin q x hq).1 h1 h3
    rw [this];simp
  ·rw [nM h hx ht] at h2 ⊢
   have hbx:b=x:=by simpa using h2
   subst hbx
   rw [nM h hx ht] at h1;exact h1
termination_by n => n
decreasing_by omega
theorem IM (h:Lk S K d){a b:Nat}(hab:d a=d b):∀(n x:Nat),d x=n→(S.at x).isSome=true→lH S d a x=true→lH S d b x=true→a=b
 | n,x,hn,hx,h1,h2=>by
  rcases h.NY x with ⟨q,hq⟩ | ht
  ·have hd:=h.qc q x hq
   have hu:=(h.kin q x hq).1
   rw [mG h hq] at h1 h2
   by_cases ha:a=x
   ·by_cases hb:b=x
    ·rw [ha,hb]
    ·have:lH S d b q=true:=by rw [eY.2 hb] at h2;simpa using h2
     have:=sub_le h hu this
     rw [ha] at hab;omega
   ·have h3:lH S d a q=true:=by rw [eY.2 ha] at h1;simpa using h1
    by_cases hb:b=x
    ·have:=sub_le h hu h3
     rw [hb] at hab;omega
    ·have h4:lH S d b q=true:=by rw [eY.2 hb] at h2;simpa using h2
     exact IM h hab (d q) q rfl hu h3 h4
  ·rw [nM h hx ht] at h1 h2
   have e1:a=x:=by simpa using h1
   have e2:b=x:=by simpa using h2
   rw [e1,e2]
termination_by n => n
decreasing_by omega
theorem mF (h:Lk S K d):∀(f x y:Nat),(S.at x).isSome=true→y∈dR K f x→lH S d x y=true∧(S.at y).isSome=true
 | 0,x,y,hx,hy=>by
  simp [dR] at hy;subst hy;exact⟨sub_self h hx,hx⟩
 | f+1,x,y,hx,hy=>by
  rw [dR,bn] at hy
  rcases hy with rfl | hy
  ·exact⟨sub_self h hx,hx⟩
  ·obtain⟨k,hk,hy⟩:=bT.1 hy
   obtain⟨h1,h2⟩:=mF h f k y (h.kin x k hk).2 hy
   refine⟨Fq h (d y) y rfl h2 (b:=k) ?_ h1,h2⟩
   rw [mG h hk,sub_self h hx];simp
theorem Gz (h:Lk S K d):∀(n x y:Nat),d y=n→(S.at y).isSome=true→(S.at x).isSome=true→lH S d x y=true→y∈dR K (128 - d x) x
 | n,x,y,hn,hy,hx,hs=>by
  rcases h.NY y with ⟨q,hq⟩ | ht
  ·have hd:=h.qc q y hq
   have hu:=(h.kin q y hq).1
   rw [mG h hq] at hs
   by_cases e:x=y
   ·subst e
    cases 128 - d x <;> simp [dR]
   ·have h3:lH S d x q=true:=by rw [eY.2 e] at hs;simpa using hs
    have h4:=Gz h (d q) x q rfl hu hx h3
    have hlow:=h.low y
    have hle:=sub_le h hu h3
    -- a child of a walked node is walked, where the fuel suffices
    have key:∀(f x:Nat),(S.at x).isSome=true→128 - d x≤f→q∈dR K f x→lH S d x q=true→y∈dR K f x:=by
     intro f
     induction f with
     | zero =>
      intro x hx hf hm hs
      simp [dR] at hm
      subst hm
      have:=h.low y
      omega
     | succ f ih =>
      intro x hx hf hm hs
      rw [dR,bn] at hm
      rw [dR,bn]
      right
      rcases hm with rfl | hm
      ·refine bT.2 ⟨y,hq,?_⟩
       cases f <;> simp [dR]
      ·obtain⟨k,hk,hm⟩:=bT.1 hm
       have hdk:=h.qc x k hk
       obtain⟨k1,k2⟩:=mF h f k q (h.kin x k hk).2 hm
       exact bT.2 ⟨k,hk,ih k (h.kin x k hk).2 (by omega) hm k1⟩
    exact key _ x hx (au _) h4 h3
  ·rw [nM h hy ht] at hs
   have e:x=y:=by simpa using hs
   subst e
   cases 128 - d x <;> simp [dR]
termination_by n => n
decreasing_by omega
theorem pg (h:Lk S K d):∀(f x:Nat),(S.at x).isSome=true→(dR K f x).Nodup
 | 0,x,_=>by simp [dR]
 | f+1,x,hx=>by
  rw [dR,o8]
  refine⟨fun hm=>?_,DR _ _ (h.nodup x) (fun k hk=>pg h f k (h.kin x k hk).2) (fun a ha b hb hab z hza hzb=>?_)⟩
  ·obtain⟨k,hk,hy⟩:=bT.1 hm
   have h1:=mF h f k x (h.kin x k hk).2 hy
   have:=sub_le h hx h1.1
   have:=h.qc x k hk
   omega
  ·obtain⟨h1,h2⟩:=mF h f a z (h.kin x a ha).2 hza
   obtain⟨h3,_⟩:=mF h f b z (h.kin x b hb).2 hzb
   exact hab (IM h (by rw [h.qc x a ha,h.qc x b hb]) (d z) z rfl h2 h1 h3)
theorem oz (h:Lk S K d)(f x:Nat)(hx:(S.at x).isSome=true):(dR K f x).length≤S.slots.length :=
 qM S.slots.length _ (pg h f x hx) (fun y hy=>by
  obtain⟨n,hn⟩:=aB.1 (mF h f x y hx hy).2
  exact iy hn)
end
section
variable {ex : Prop} {E : Nat → Prop} {c : Nat} {S : Tr} {K : Nat → List Nat} {d : Nat → Nat} {M : List MN} {σ : Nat → Nat}
theorem Tw.dR (W:Tw ex E c S K M σ):∀(f i:Nat) (m:MN),lv M i=some m→Go.Proofs.YtfelmdkeaacfeaaGreatDoor.W.dR K f (σ i)=(Go.Proofs.YtfelmdkeaacfeaaGreatDoor.W.dR (kM M) f i).map σ
 | 0,_,_,_=>rfl
 | f+1,i,m,hi=>by
  show σ i :: (K (σ i)).flatMap _=_
  rw [Go.Proofs.YtfelmdkeaacfeaaGreatDoor.W.dR,fE,W.kids i m hi,qQ hi]
  congr 1
  rw [List.flatMap_map,List.map_flatMap]
  have:∀l:List Nat,(∀k∈l,k∈m.kids)→l.flatMap (fun k=>Go.Proofs.YtfelmdkeaacfeaaGreatDoor.W.dR K f (σ k))=l.flatMap (fun k=>(Go.Proofs.YtfelmdkeaacfeaaGreatDoor.W.dR (kM M) f k).map σ):=by
   intro l
   induction l with
   | nil=>intro _;rfl
   | cons k l ih =>
    intro h
    obtain⟨mk,h1,_⟩:=W.kid i m k hi (h k (by simp))
    rw [eG,eG,W.dR f k mk h1,ih (fun q hq=>h q (by simp [hq]))]
  exact this m.kids (fun _ h=>h)
theorem Tw.qO (W:Tw ex E c S K M σ):∀(f i:Nat) (m:MN),lv M i=some m→∀y∈Go.Proofs.YtfelmdkeaacfeaaGreatDoor.W.dR (kM M) f i,∃my,lv M y=some my
 | 0,i,m,hi,y,hy=>by simp [Go.Proofs.YtfelmdkeaacfeaaGreatDoor.W.dR] at hy;subst hy;exact⟨m,hi⟩
 | f+1,i,m,hi,y,hy=>by
  rw [Go.Proofs.YtfelmdkeaacfeaaGreatDoor.W.dR,bn] at hy
  rcases hy with rfl | hy
  ·exact⟨m,hi⟩
  ·obtain⟨k,hk,hy⟩:=bT.1 hy
   rw [qQ hi] at hk
   obtain⟨mk,h1,_⟩:=W.kid i m k hi hk
   exact W.qO f k mk h1 y hy
theorem Tw.oz (W:Tw ex E c S K M σ)(L:Lk S K d)(f:Nat){i:Nat}{m:MN}(hi:lv M i=some m):(Go.Proofs.YtfelmdkeaacfeaaGreatDoor.W.dR (kM M) f i).length≤S.slots.length:=by
 obtain⟨n,hn,_⟩:=W.node i m hi
 have:=Go.Proofs.YtfelmdkeaacfeaaGreatDoor.W.oz L f (σ i) (by rw [hn];rfl)
 rw [W.dR f i m hi,bM] at this
 exact this
end
end Go.Proofs.YtfelmdkeaacfeaaGreatDoor.W
end
