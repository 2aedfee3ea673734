/- Texts joined: CutP Reg Ob. -/
import Derived.Test.YtfelmdkeaacfeaaGreatDoorTB1
import Derived.Test.YtfelmdkeaacfeaaGreatDoorTB3
import Derived.Deep.RegionHeld3
import Derived.BigQuiet
import Derived.WalkKit
set_option maxRecDepth 100000
set_option maxHeartbeats 40000000
set_option linter.unusedVariables false
set_option linter.unusedSimpArgs false
section
namespace Go.Proofs.YtfelmdkeaacfeaaGreatDoor.W
def yt (S:Tr)(l:List Nat)(p j c x:Nat)(n:Nd):Nd :=
 { n with
  parent:=if x=c then 0 else n.parent
  prev:=if x=c then 0 else if l[j+1]? = some x then hO S (pv l j) else n.prev
  next:=if x=c then 0 else if pv l j=some x then hO S l[j+1]? else n.next
  first:=if x=p∧j=0 then hO S l[j+1]? else n.first
  last:=if x=p∧j+1=l.length then hO S (pv l j) else n.last }
def mP (K:Nat→List Nat)(p j:Nat)(q:Nat):List Nat:=if q=p then(K p).eraseIdx j else K q
structure yI (S S':Tr) (l:List Nat) (p j c:Nat):Prop where
 at_:∀x,S'.at x=(S.at x).map (yt S l p j c x)
 len:S'.slots.length=S.slots.length
 b:S'.b=S.b
 s:S'.s=S.s
 free:S'.free=S.free
 root:S'.root=S.root
theorem yI.hd {S S':Tr}{l:List Nat}{p j c:Nat}(h:yI S S' l p j c)(x:Nat):S'.hd x=S.hd x:=by unfold Tr.hd;rw [h.b,h.s]
theorem Lk.inj {S K d}(h:Lk S K d){q i i' x:Nat}(e1:(K q)[i]? = Option.some x)(e2:(K q)[i']? = Option.some x):i'=i :=
 (iK (ai.1 e2).1 (h.nodup q)).1 (e2.trans e1.symm)
theorem Lk.self {S K d}(h:Lk S K d){p:Nat}:p∉K p:=fun hk=>by have:=h.qc p p hk;omega
theorem Lk.VD {S K d}(h:Lk S K d){x:Nat}(hx:(S.at x).isSome=true):1≤d x:=by
 by_cases e:∃p,x∈K p
 ·obtain⟨p,hp⟩:=e;have:=h.qc p x hp;omega
 ·rw [h.one x hx (fun p hp=>e ⟨p,hp⟩)];exact au _
theorem uG {S K d}(h:Lk S K d){p j c:Nat}(hj:(K p)[j]? = some c)(q k:Nat):k∈mP K p j q↔(k∈K q∧k≠c):=by
 unfold mP
 have hjl:=(ai.1 hj).1
 by_cases e:q=p
 ·subst e
  rw [aC rfl,nJ]
  constructor
  ·rintro⟨i,hi,hk⟩
   exact⟨ah hk,fun e=>hi (by subst e;exact h.inj hj hk)⟩
  ·rintro⟨hk,hc⟩
   obtain⟨i,hi⟩:=aI.1 hk
   exact⟨i,fun e=>hc (by subst e;rw [hj] at hi;cases hi;rfl),hi⟩
 ·rw [ax e]
  exact⟨fun hk=>⟨hk,fun e'=>e (h.rD (e' ▸ hk) (ah hj))⟩,fun hk=>hk.1⟩
theorem Lk.cut {S S':Tr}{K:Nat→List Nat}{d d':Nat→Nat}(h:Lk S K d){p j c:Nat}(hj:(K p)[j]? = Option.some c)(hk:yI S S' (K p) p j c)
  (hd2:∀q k,k∈K q→k≠c→d' k=d' q+1)(hd1:d' c=1)(hd4:∀x,d' x≤128)(hd5:∀x,(S.at x).isSome=true→(∀q,x∉K q)→d' x=1):Lk S' (mP K p j) d':=by
 have hO':∀o,hO S' o=hO S o:=fun o=>by cases o with | none=>rfl | some x=>exact hk.hd x
 have hsome:∀x,(S'.at x).isSome=(S.at x).isSome:=fun x=>by rw [hk.at_];cases S.at x <;> rfl
 have hmem:=uG h hj
 have hjl:=(ai.1 hj).1
 have hcp:=ah hj
 have hpc:p≠c:=fun e=>h.self (e ▸ hcp:p∈K p)
 have hel:=fun i=>List.getElem?_eraseIdx (l:=K p) (i:=j) (j:=i)
 refine⟨?_,?_,?_,?_,?_,?_,?_,hd4,by rw [hk.len];exact h.few⟩
 ·intro q k hq
  rw [hsome,hsome]
  exact h.kin q k ((hmem q k).1 hq).1
 ·intro x n' hx
  rw [hk.at_] at hx
  obtain⟨n,hn,rfl⟩:=bJ.1 hx
  obtain⟨h1,h2⟩:=h.node x n hn
  rw [hO',hO']
  unfold yt mP
  simp only []
  by_cases e:x=p
  ·subst e
   rw [aC rfl,qw,hel,hel,Xk,aC hjl]
   constructor
   ·by_cases j0:j=0
    ·subst j0;simp
    ·rw [ax (fun h=>j0 h.2),aC (by omega)];exact h1
   ·by_cases jl:j+1=(K x).length
    ·rw [aC ⟨rfl,jl⟩]
     unfold pv
     by_cases j0:j=0
     ·rw [aC j0,ax (by omega),bQ (by omega)]
     ·rw [ax j0,aC (by omega)]
      congr 2;omega
    ·rw [ax (fun h=>jl h.2),h2,qw,ax (by omega)]
     congr 2;omega
  ·rw [ax e,ax (fun h=>e h.1),ax (fun h=>e h.1)]
   exact⟨h1,h2⟩
 ·intro q i k n' hq hx
  rw [hk.at_] at hx
  obtain⟨n,hn,rfl⟩:=bJ.1 hx
  rw [hO',hO',hk.hd]
  have hkc:k≠c:=((hmem q k).1 (ah hq)).2
  unfold mP at hq ⊢
  by_cases e:q=p
  ·subst e
   rw [aC rfl] at hq ⊢
   rw [hel] at hq
   rw [hel,hel]
   unfold yt
   simp only []
   rw [ax hkc,ax hkc,ax hkc]
   by_cases i1:i < j
   ·rw [aC i1] at hq
    obtain⟨a1,a2,a3⟩:=h.kid q i k n hq hn
    refine⟨a1,?_,?_⟩
    ·rw [ax (fun e'=>by have:=h.inj hq e';omega),a2]
     by_cases i0:i=0
     ·rw [aC i0,aC i0]
     ·rw [ax i0,ax i0,aC (by omega)]
    ·by_cases ij:i+1=j
     ·rw [aC (by unfold pv;rw [ax (by omega),show j - 1=i by omega];exact hq),ax (by omega),ij]
     ·rw [ax (fun e'=>by
       unfold pv at e'
       split at e'
       ·cases e'
       ·have:=h.inj hq e';omega),a3,aC (by omega)]
   ·rw [ax i1] at hq
    obtain⟨a1,a2,a3⟩:=h.kid q (i+1) k n hq hn
    refine⟨a1,?_,?_⟩
    ·by_cases ij:i=j
     ·subst ij
      rw [aC hq]
      unfold pv
      by_cases i0:i=0
      ·rw [aC i0,aC i0]
      ·rw [ax i0,ax i0,aC (by omega)]
     ·rw [ax (fun e'=>by have:=h.inj hq e';omega),a2,ax (by omega),ax (by omega),ax (by omega)]
      congr 2;omega
    ·rw [ax (fun e'=>by
       unfold pv at e'
       split at e'
       ·cases e'
       ·have:=h.inj hq e';omega),a3,ax (by omega)]
  ·rw [ax e] at hq ⊢
   obtain⟨a1,a2,a3⟩:=h.kid q i k n hq hn
   have hnp:∀i',(K p)[i']?≠Option.some k:=fun i' e'=>e (h.rD (ah hq) (ah e'))
   unfold yt
   simp only []
   rw [ax hkc,ax hkc,ax hkc,ax (hnp _),ax (c:=pv (K p) j=Option.some k) (fun e'=>by
    unfold pv at e'
    split at e'
    ·cases e'
    ·exact hnp _ e')]
   exact⟨a1,a2,a3⟩
 ·intro x n' hx hx2
  rw [hk.at_] at hx
  obtain⟨n,hn,rfl⟩:=bJ.1 hx
  unfold yt
  simp only []
  by_cases hxc:x=c
  ·rw [aC hxc,aC hxc,aC hxc];exact⟨rfl,rfl,rfl⟩
  ·have hxK:∀q,x∉K q:=fun q hq=>hx2 q ((hmem q x).2 ⟨hq,hxc⟩)
   obtain⟨a1,a2,a3⟩:=h.top x n hn hxK
   rw [ax hxc,ax hxc,ax hxc,ax (fun e'=>hxK p (ah e')),ax (fun e'=>by
    unfold pv at e'
    split at e'
    ·cases e'
    ·exact hxK p (ah e'))]
   exact⟨a1,a2,a3⟩
 ·intro q
  unfold mP
  by_cases e:q=p
  ·rw [aC e];exact(h.nodup p).eraseIdx _
  ·rw [ax e];exact h.nodup q
 ·intro q k hq
  obtain⟨h1,h2⟩:=(hmem q k).1 hq
  exact hd2 q k h1 h2
 ·intro x hx hxK
  rw [hsome] at hx
  by_cases hxc:x=c
  ·rw [hxc];exact hd1
  ·exact hd5 x hx (fun q hq=>hxK q ((hmem q x).2 ⟨hq,hxc⟩))
def lH (S:Tr)(d:Nat→Nat)(c x:Nat):Bool:=mX S c (d x) (some x)
theorem Ug {S K d}(h:Lk S K d){q k:Nat}(hk:k∈K q):pr S k=some q:=by
 obtain⟨n,hn⟩:=aB.1 (h.kin q k hk).2
 obtain⟨j,hj⟩:=aI.1 hk
 exact Ja h hn (o:=some q) (h.kid q j k n hj hn).1 (fun x hx=>by cases hx;exact(h.kin q k hk).1)
theorem mG {S K d}(h:Lk S K d){q k:Nat}(hk:k∈K q)(c:Nat):lH S d c k=(c == k || lH S d c q):=by
 unfold lH
 rw [h.qc q k hk]
 show(c == k || mX S c (d q) (pr S k))=_
 rw [Ug h hk]
theorem nM {S K d}(h:Lk S K d){x:Nat}(hx:(S.at x).isSome=true)(ht:∀q,x∉K q)(c:Nat):lH S d c x=(c == x):=by
 unfold lH
 rw [h.one x hx ht]
 show(c == x || mX S c 0 (pr S x))=_
 simp [mX]
theorem sub_self {S K d}(h:Lk S K d){x:Nat}(hx:(S.at x).isSome=true):lH S d x x=true:=by
 by_cases e:∃p,x∈K p
 ·obtain⟨p,hp⟩:=e;rw [mG h hp];simp
 ·rw [nM h hx (fun p hp=>e ⟨p,hp⟩)];simp
theorem zM {α : Type}(f:α→Nat):∀(l:List α) (m:Nat),m≤l.foldl (fun m k=>max m (f k)) m∧∀k∈l,f k≤l.foldl (fun m k=>max m (f k)) m
 | [],m=>⟨au _,fun k hk=>by cases hk⟩
 | a :: l,m=>by
  obtain⟨h1,h2⟩:=zM f l (max m (f a))
  refine⟨by simp only [List.foldl_cons];omega,fun k hk=>?_⟩
  rw [bn] at hk
  simp only [List.foldl_cons]
  rcases hk with rfl | hk
  ·omega
  ·exact h2 k hk
theorem RS {S K d}(h:Lk S K d){q k:Nat}(hk:k∈K q):hgt K (128 - d k) k+d k≤hgt K (128 - d q) q+d q:=by
 have h1:=h.qc q k hk
 have h2:=h.low k
 have e:hgt K (128 - d q) q=(K q).foldl (fun m k'=>max m (hgt K (128 - d k) k')) 0+1:=by
  rw [show 128 - d q=(128 - d k)+1 by omega];rfl
 have:=(zM (hgt K (128 - d k)) (K q) 0).2 k hk
 rw [e]
 omega
theorem Nj (K:Nat→List Nat):∀f i,1≤hgt K f i
 | 0,_=>au _
 | f+1,i=>by unfold hgt;omega
theorem tH {S K d}(h:Lk S K d){c:Nat}:∀(m x:Nat),d x=m→(S.at x).isSome=true→lH S d c x=true→d c≤d x∧hgt K (128 - d x) x+d x≤hgt K (128 - d c) c+d c
 | m,x,hm,hx,hs=>by
  by_cases e:c=x
  ·subst e;exact⟨au _,au _⟩
  by_cases ep:∃p,x∈K p
  ·obtain⟨p,hp⟩:=ep
   have hdp:=h.qc p x hp
   rw [mG h hp] at hs
   have hs':lH S d c p=true:=by simpa [e] using hs
   have ih:=tH h (d p) p rfl (h.kin p x hp).1 hs'
   have hg:=RS h hp
   omega
  ·rw [nM h hx (fun p hp=>ep ⟨p,hp⟩)] at hs
   simp at hs
   exact absurd hs e
termination_by m _ => m
def zQ (S:Tr)(d:Nat→Nat)(c x:Nat):Nat:=if(S.at x).isSome && lH S d c x then d x - d c+1 else d x
def En (S:Tr)(d:Nat→Nat)(p c x:Nat):Nat:=if(S.at x).isSome && lH S d c x then d x - d c+1+d p else d x
theorem Lk.cut' {S S':Tr}{K:Nat→List Nat}{d:Nat→Nat}(h:Lk S K d){p j c:Nat}(hj:(K p)[j]? = Option.some c)(hk:yI S S' (K p) p j c):Lk S' (mP K p j) (zQ S d c):=by
 have hcp:=ah hj
 have hcs:=(h.kin p c hcp).2
 refine h.cut hj hk ?_ ?_ ?_ ?_
 ·intro q k hq hkc
  have hd:=h.qc q k hq
  have hs:=mG h hq c
  obtain⟨u1,u2⟩:=h.kin q k hq
  have hne:(c == k)=false:=by simpa using fun e=>hkc e.symm
  rw [hne,iE] at hs
  unfold zQ
  rw [u1,u2,hs]
  cases e:lH S d c q with
  | false=>simpa using hd
  | true =>
   have:=(tH h _ q rfl u1 e).1
   simp
   omega
 ·unfold zQ;rw [hcs,sub_self h hcs];simp
 ·intro x
  have:=h.low x
  unfold zQ
  by_cases e:((S.at x).isSome && lH S d c x)=true
  ·rw [aC e]
   rw [aH] at e
   have:=h.VD hcs
   have:=(tH h _ x rfl e.1 e.2).1
   omega
  ·rw [ax e];exact this
 ·intro x hx hxK
  unfold zQ
  have hne:x≠c:=fun e=>hxK p (e ▸ hcp)
  rw [nM h hx hxK c,ax (by intro e;rw [aH] at e;exact hne (by simpa using e.2:c=x).symm)]
  exact h.one x hx hxK
theorem Lk.Nr {S S1 S2:Tr}{K:Nat→List Nat}{d:Nat→Nat}(h:Lk S K d){q j c p i:Nat}(hj:(K q)[j]? = Option.some c)(hk:yI S S1 (K q) q j c)(hp:(S.at p).isSome=true)(hi:i≤(mP K q j p).length)
  (hnot:lH S d c p=false)(hgt':d p+hgt K (128 - d c) c≤128)(hl:Linked S1 S2 (mP K q j p) p i c):Lk S2 (jK (mP K q j) p i c) (En S d p c):=by
 have h1:=h.cut' hj hk
 have hcs:=(h.kin q c (ah hj)).2
 have hsome:∀x,(S1.at x).isSome=(S.at x).isSome:=fun x=>by rw [hk.at_];cases S.at x <;> rfl
 obtain⟨np,hnp⟩:=aB.1 ((hsome p).trans hp)
 obtain⟨nc,hnc⟩:=aB.1 ((hsome c).trans hcs)
 have hdet:∀q',c∉mP K q j q':=fun q' hq'=>((uG h hj q' c).1 hq').2 rfl
 have hpc:p≠c:=fun e=>by subst e;rw [sub_self h hcs] at hnot;cases hnot
 have hdp:zQ S d c p=d p:=by unfold zQ;rw [hnot];simp
 have hIC:∀x,En S d p c x=if(S.at x).isSome && lH S d c x then zQ S d c x+d p else zQ S d c x:=fun x=>by
  unfold En zQ;split <;> rfl
 refine h1.link hnp hnc hi hdet hpc hl.at_ hl.len hl.hd ?_ ?_ ?_ ?_ ?_
 ·rw [hIC,hcs,sub_self h hcs,hdp]
  unfold zQ;rw [hcs,sub_self h hcs];simp;omega
 ·intro q' k hk'
  have hm:=(uG h hj q' k).1 hk'
  have hd:=h1.qc q' k hk'
  obtain⟨u1,u2⟩:=h.kin q' k hm.1
  have hs:=mG h hm.1 c
  have hne:(c == k)=false:=by simpa using fun e=>hm.2 e.symm
  rw [hne,iE] at hs
  rw [hIC,hIC,u1,u2,hs,hd]
  cases lH S d c q' <;> simp <;> omega
 ·rw [hIC,hnot,hdp];simp
 ·intro x
  rw [hIC]
  by_cases e:((S.at x).isSome && lH S d c x)=true
  ·rw [aC e]
   unfold zQ
   rw [aC e]
   rw [aH] at e
   have h2:=tH h _ x rfl e.1 e.2
   have h3:=Nj K (128 - d x) x
   omega
  ·rw [ax e];exact h1.low x
 ·intro x hx hxc hxK
  rw [hsome] at hx
  rw [hIC]
  have hxK':∀q',x∉K q':=fun q' hq'=>hxK q' ((uG h hj q' x).2 ⟨hq',hxc⟩)
  rw [nM h hx hxK' c,ax (by intro e;rw [aH] at e;exact hxc (by simpa using e.2:c=x).symm)]
  exact h1.one x (by rw [hsome];exact hx) hxK
theorem Lk.Tt {S S2:Tr}{K:Nat→List Nat}{d:Nat→Nat}(h:Lk S K d){c p i:Nat}(hp:(S.at p).isSome=true)(hc:(S.at c).isSome=true)(hdet:∀q,c∉K q)(hi:i≤(K p).length)
  (hnot:lH S d c p=false)(hgt':d p+hgt K (128 - d c) c≤128)(hl:Linked S S2 (K p) p i c):Lk S2 (jK K p i c) (En S d p c):=by
 obtain⟨np,hnp⟩:=aB.1 hp
 obtain⟨nc,hnc⟩:=aB.1 hc
 have hpc:p≠c:=fun e=>by subst e;rw [sub_self h hc] at hnot;cases hnot
 have hd1:=h.one c hc hdet
 refine h.link hnp hnc hi hdet hpc hl.at_ hl.len hl.hd ?_ ?_ ?_ ?_ ?_
 ·unfold En;rw [hc,sub_self h hc];simp;omega
 ·intro q k hk
  have hd:=h.qc q k hk
  obtain⟨u1,u2⟩:=h.kin q k hk
  have hs:=mG h hk c
  have hne:(c == k)=false:=by simpa using fun e:c=k=>hdet q (e ▸ hk)
  rw [hne,iE] at hs
  unfold En
  rw [u1,u2,hs]
  cases e:lH S d c q with
  | false=>simpa using hd
  | true =>
   have:=(tH h _ q rfl u1 e).1
   simp
   omega
 ·unfold En;rw [hnot];simp
 ·intro x
  unfold En
  by_cases e:((S.at x).isSome && lH S d c x)=true
  ·rw [aC e]
   rw [aH] at e
   have h2:=tH h _ x rfl e.1 e.2
   have h3:=Nj K (128 - d x) x
   omega
  ·rw [ax e];exact h.low x
 ·intro x hx hxc hxK
  unfold En
  rw [nM h hx hxK c,ax (by intro e;rw [aH] at e;exact hxc (by simpa using e.2:c=x).symm)]
  exact h.one x hx hxK
end Go.Proofs.YtfelmdkeaacfeaaGreatDoor.W
end
section
namespace Go.Proofs.YtfelmdkeaacfeaaGreatDoor.W
open Go
def gG (o:Oper):Bool:=match o.op with | .call c=>(match c.callee with | .builtin b=>(match b with | .print=>true | .println=>true | _=>false) | _=>true) | _=>false
section
variable (P : Program) (ops : Array Oper) (S : World → Prop) (C : Nat → World → Prop)
def jo (o:Oper)(a:Act)(v:Value):Prop :=
 ∀w,S w→(execOp a.eval o).run P w=.ok (.value v) w∨((execOp a.eval o).run P w=.ok .skip w∧v=undef)
def Nu (o:Oper)(a:Act)(C1 C2:World→Prop)(v:Value):Prop :=
 ∀w,C1 w→∃f args,(execOp a.eval o).run P w=.ok (.enter f args) w∧Calls P f args w (fun e w'=>e=.returned v∧C2 w')
def Nw (o:Oper)(k:Nat)(v:Value)(k':Nat)(a:Act):Prop :=
 (Region.wanted o (yielded ops a.tmps)=true∧jo P S o a v∧k'=k) ∨
 (Region.wanted o (yielded ops a.tmps)=true∧gG o=true∧Nu P o a (C k) (C (k+1)) v∧k'=k+1) ∨
 (Region.wanted o (yielded ops a.tmps)=false∧v=undef∧k'=k)
def C9 (Q:Nat→Act→Prop):Nat→List Oper→Act→Prop
 | k,[],a=>Q k a
 | k,o :: rest,a=>∃v k',Nw P ops S C o k v k' a∧C9 Q k' rest (a.put o.dst v)
def JQ (md:Region.Mode)(Q:Nat→Act→Prop):Nat→Array Bool→Nat→Act→Prop
 | 0,listed,k,a=>Region.ready md ops listed=[]∧Q k a
 | n+1,listed,k,a=>(Region.ready md ops listed=[]→Q k a)∧∀i∈Region.ready md ops listed,∀o,ops[i]? = some o→∃v k',Nw P ops S C o k v k' a∧JQ md Q n (listed.setIfInBounds i true) k' (a.put o.dst v)
end
section
variable {P : Program} {ops : Array Oper} {S : World → Prop} {C : Nat → World → Prop} {md : Region.Mode} {Q : Nat → Act → Prop}
theorem Nw.same {o:Oper}{k k':Nat}{v:Value}{a a':Act}(h:Nw P ops S C o k v k' a)(he:execOp a'.eval o=execOp a.eval o)
  (hw:Region.wanted o (yielded ops a'.tmps)=Region.wanted o (yielded ops a.tmps)):Nw P ops S C o k v k' a':=by
 unfold Nw jo Nu at *
 rw [he,hw]
 exact h
theorem Nw.stage {o:Oper}{k:Nat}{v:Value}{a:Act}(h:Nw P ops S C o k v k a)(j:Nat):Nw P ops S C o j v j a:=by
 rcases h with ⟨h1,h2,_⟩ | ⟨_,_,_,h4⟩ | ⟨h1,h2,_⟩
 ·exact .inl ⟨h1,h2,rfl⟩
 ·omega
 ·exact .inr (.inr ⟨h1,h2,rfl⟩)
theorem Nw.quiet {o:Oper}{k k':Nat}{v:Value}{a:Act}(h:Nw P ops S C o k v k' a)(hc:gG o=false):k'=k:=by
 rcases h with ⟨_,_,h⟩ | ⟨_,h,_⟩ | ⟨_,_,h⟩
 ·exact h
 ·rw [hc] at h;cases h
 ·exact h
theorem IB {Q':Exit→Act→World→Prop}(hS:∀k w,C k w→S w)(hQ:∀k a w,C k w→Q k a→Q' .normal a w) :
  ∀(n:Nat) (listed:Array Bool) (k:Nat) (a:Act) (w:World),C k w→JQ P ops S C md Q n listed k a→wpAny P md ops Q' n listed a w:=by
 intro n
 induction n with
 | zero=>intro listed k a w hw h;exact⟨h.1,hQ k a w hw h.2⟩
 | succ n ih =>
  intro listed k a w hw h
  refine⟨fun e=>hQ k a w hw (h.1 e),fun i hi=>?_⟩
  obtain⟨_,o,ho,_⟩:=jD.1 hi
  obtain⟨v,k',hy,hn⟩:=h.2 i hi o ho
  unfold wpOp
  simp only [ho]
  rcases hy with ⟨h1,h2,rfl⟩ | ⟨h1,_,h2,rfl⟩ | ⟨h1,rfl,rfl⟩
  ·rw [aC h1]
   left
   unfold Oper.wp
   rcases h2 w (hS _ w hw) with e | ⟨e,rfl⟩
   ·rw [e];exact ih _ _ _ _ hw hn
   ·rw [e];exact ih _ _ _ _ hw hn
  ·rw [aC h1]
   left
   obtain⟨f,args,e,hc⟩:=h2 w hw
   unfold Oper.wp
   rw [e]
   refine Yi hc ?_
   rintro e w' ⟨rfl,hw'⟩
   exact ih _ _ _ _ hw' hn
  ·rw [ax (by rw [h1];exact Bool.false_ne_true)]
   exact ih _ _ _ _ hw hn
theorem JP {i:Nat}{oi:Oper}{v:Value}(hi:ops[i]? = some oi)(hsel:∀(j:Nat) (o:Oper) cs b,ops[j]? = some o→o.op≠.select cs b) :
  ∀(n:Nat) (listed:Array Bool) (k k':Nat) (a:Act),
   (∀j oj,ops[j]? = some oj→j≠i→listed.getD j true=false→(∀e∈oj.after,Region.binds md e=true→e.on≠i)→oi.apart ops oj=true) →
   (k'=k∨∃B:Nat→Bool,(∀j,B j=true→listed.getD j true=false∧∃oj,ops[j]? = some oj∧∃e∈oj.after,Region.binds md e=true∧(e.on=i∨B e.on=true)) ∧
    (∀j oj,ops[j]? = some oj→gG oj=true→j≠i→listed.getD j true=false→B j=true)) →
   i∈Region.ready md ops listed→Nw P ops S C oi k v k' a→JQ P ops S C md Q n (listed.setIfInBounds i true) k' (a.put oi.dst v)→JQ P ops S C md Q (n+1) listed k a:=by
 intro n
 induction n with
 | zero =>
  intro listed k k' a _ _ hr hy H
  refine⟨fun h=>(by rw [h] at hr;cases hr),fun j hj o ho=>?_⟩
  by_cases hji:j=i
  ·subst hji
   obtain rfl:oi=o:=by rw [hi] at ho;exact cO ho
   exact⟨v,k',hy,H⟩
  ·have:=oN hj hji
   rw [H.1] at this
   cases this
 | succ n ih =>
  intro listed k k' a hfree hB hr hy H
  refine⟨fun h=>(by rw [h] at hr;cases hr),fun j hj oj hoj=>?_⟩
  by_cases hji:j=i
  ·subst hji
   obtain rfl:oi=oj:=by rw [hi] at hoj;exact cO hoj
   exact⟨v,k',hy,H⟩
  ·obtain⟨u,k2,hy2,H2⟩:=H.2 j (oN hj hji) oj hoj
   obtain⟨hjun,oj',hoj',hall⟩:=jD.1 hj
   obtain rfl:oj=oj':=by rw [hoj] at hoj';exact cO hoj'
   have hiun:=(jD.1 hr).1
   have hnot:∀e∈oj.after,Region.binds md e=true→e.on≠i:=fun e he hb heq=>by
    have h1:=hall e he hb
    rw [heq] at h1
    rcases jq i listed.size with h' | h'
    ·simp [h'] at hiun h1;rw [hiun] at h1;cases h1
    ·simp [eU h'] at h1
   have hap:=hfree j oj hoj hji hjun hnot
   obtain⟨p1,p2,p3⟩:=Xu hap
   have hsi:=fun cs b=>hsel i oi cs b hi
   have hsj:=fun cs b=>hsel j oj cs b hoj
   have hyj:Nw P ops S C oj k' u k2 a:=hy2.same (WQ oj hsj a oi.dst v p1).symm (WO oj a oi.dst v p1).symm
   have hyi:Nw P ops S C oi k v k' (a.put oj.dst u):=hy.same (WQ oi hsi a oj.dst u p3) (WO oi a oj.dst u p3)
   have hfree':∀m om,ops[m]? = some om→m≠i→(listed.setIfInBounds j true).getD m true=false →
     (∀e∈om.after,Region.binds md e=true→e.on≠i)→oi.apart ops om=true:=fun m om hm hmi hun hno=>by
    refine hfree m om hm hmi ?_ hno
    by_cases hjm:j=m
    ·subst hjm;exact hjun
    ·rw [iY true hjm] at hun;exact hun
   have hr':=oN hr (WV hji)
   rw [jG _ _ (WV hji),wE a v u p2] at H2
   rcases hB with rfl | ⟨B,b1,b2⟩
   ·exact⟨u,k2,hyj,ih (listed.setIfInBounds j true) k2 k2 _ hfree' (.inl rfl) hr' (hyi.stage k2) H2⟩
   ·have hBj:B j=false:=by
     by_cases hb:B j=true
     ·obtain⟨_,o',ho',e,he,hbe,hon⟩:=b1 j hb
      obtain rfl:oj=o':=by rw [hoj] at ho';exact cO ho'
      have h1:=hall e he hbe
      rcases hon with hon | hon
      ·exact absurd hon (hnot e he hbe)
      ·have h0:=(b1 _ hon).1
       rcases jq e.on listed.size with h' | h'
       ·simp [h'] at h0 h1;rw [h0] at h1;cases h1
       ·simp [eU h'] at h1
     ·simpa using hb
    have hnc:gG oj=false:=by
     by_cases hc:gG oj=true
     ·have:=b2 j oj hoj hc hji hjun;rw [this] at hBj;cases hBj
     ·simpa using hc
    obtain rfl:=hyj.quiet hnc
    refine⟨u,k,hyj.stage k,ih (listed.setIfInBounds j true) k _ _ hfree' (.inr ⟨B,fun m hm=>?_,fun m om hom hc hmi hun=>?_⟩) hr' hyi H2⟩
    ·obtain⟨c1,c2⟩:=b1 m hm
     refine⟨?_,c2⟩
     rw [iY true (by rintro rfl;rw [hm] at hBj;cases hBj)]
     exact c1
    ·refine b2 m om hom hc hmi ?_
     by_cases hjm:j=m
     ·subst hjm;exact hjun
     ·rw [iY true hjm] at hun;exact hun
def pR (md:Region.Mode)(ops:Array Oper)(i:Nat):List Nat :=
 (List.range ops.size).foldl (fun B j=>if(match ops[j]? with | some o=>o.after.any fun e=>Region.binds md e && (e.on == i || B.contains e.on) | none=>false) then j :: B else B) []
def mZ (ops:Array Oper)(j:Nat):Bool:=match ops[j]? with | some o=>gG o | none=>false
def Il (md:Region.Mode)(ops:Array Oper)(i:Nat)(B:List Nat):Bool :=
 (B.all fun j=>decide (i < j) && match ops[j]? with | some o=>o.after.any fun e=>Region.binds md e && (e.on == i || B.contains e.on) | none=>false) &&
 ((List.range ops.size).all fun j=>!(mZ ops j && decide (i < j)) || B.contains j)
def chainB (md:Region.Mode)(ops:Array Oper):Bool:=(List.range ops.size).all fun i=>!mZ ops i || Il md ops i (pR md ops i)
theorem Ik {i:Nat}{B:List Nat}(h:Il md ops i B=true) :
  (∀j,B.contains j=true→i < j∧∃oj,ops[j]? = some oj∧∃e∈oj.after,Region.binds md e=true∧(e.on=i∨B.contains e.on=true)) ∧
  (∀j oj,ops[j]? = some oj→gG oj=true→i < j→B.contains j=true):=by
 unfold Il at h
 rw [aH] at h
 obtain⟨h1,h2⟩:=h
 constructor
 ·intro j hj
  rw [dX] at h1
  have:=h1 j (by simpa using hj)
  rw [aH] at this
  obtain⟨g1,g2⟩:=this
  refine⟨by simpa using g1,?_⟩
  cases ho:ops[j]? with
  | none=>rw [ho] at g2;cases g2
  | some oj =>
   rw [ho] at g2
   obtain⟨e,he,hb⟩:=XB.1 g2
   simp only [aH,xQ,WT] at hb
   exact⟨oj,rfl,e,he,hb.1,hb.2⟩
 ·intro j oj hoj hc hij
  rw [dX] at h2
  have:=h2 j (iw.2 (aX.1 hoj).1)
  have hca:mZ ops j=true:=by unfold mZ;rw [hoj];exact hc
  simp only [hca,hij,Xw,Ye,WX,iE] at this
  exact this
theorem Gu (hs:Region.noSelect ops=true)(hch:chainB md ops=true):∀(l:List Oper) (m:Nat) (listed:Array Bool) (k:Nat) (a:Act),(∀j,l[j]? = ops[m+j]?) →
  (∀j,listed.getD j true=false→m≤j)→(∀j,m≤j→j < ops.size→listed.getD j true=false) →
  Region.lexFrom md ops l.length m listed=true→C9 P ops S C Q k l a→JQ P ops S C md Q l.length listed k a
 | [],_,_,_,_,_,_,_,hB,h=>⟨by simpa [Region.lexFrom] using hB,h⟩
 | o :: l,m,listed,k,a,hl,hlo,hhi,hB,h=>by
  have h0:ops[m]? = some o:=by simpa using (hl 0).symm
  simp only [List.length_cons,Region.lexFrom,aH] at hB
  obtain⟨⟨hr,hf⟩,hB'⟩:=hB
  obtain⟨v,k',hy,hn⟩:=h
  have hlt:m < ops.size:=(aX.1 h0).1
  have hmz:m < listed.size:=by
   rcases jq m listed.size with h' | h'
   ·exact h'
   ·have:=hhi m (au _) hlt;simp [eU h'] at this
  refine JP h0 (xP hs) l.length listed k k' a (Xe h0 hf) ?_ (by simpa using hr) hy
   (Gu hs hch l (m+1) _ k' _ (fun j=>by have:=hl (j+1);simpa [lN,oZ 1 j] using this) ?_ ?_ hB' hn)
  ·by_cases hc:gG o=true
   ·refine .inr ⟨fun j=>(pR md ops m).contains j,?_⟩
    have hca:mZ ops m=true:=by unfold mZ;rw [h0];exact hc
    have:=(dX.1 hch) m (iw.2 hlt)
    rw [hca] at this
    obtain⟨c1,c2⟩:=Ik (by simpa using this)
    refine⟨fun j hj=>?_,fun j oj hoj hcj hjm hun=>c2 j oj hoj hcj (by have:=hlo j hun;omega)⟩
    obtain⟨g1,oj,hoj,g2⟩:=c1 j hj
    exact⟨hhi j (by omega) (aX.1 hoj).1,oj,hoj,g2⟩
   ·exact .inl (hy.quiet (by simpa using hc))
  ·intro j hj
   by_cases hjm:m=j
   ·subst hjm;simp [hmz] at hj
   ·rw [iY true hjm] at hj;have:=hlo j hj;omega
  ·intro j hj hjs
   rw [iY true (by omega)]
   exact hhi j (by omega) hjs
theorem KL {id:Nat}{Q':Exit→Act→World→Prop}{a:Act}{w:World}{l:List Oper}(S:World→Prop)(C:Nat→World→Prop)(hm:P.follows .mixedOrders=true)
  (hB:Region.lexB .any l.toArray=true)(hch:chainB .any l.toArray=true)(hS:∀k w,C k w→S w)(hC:C 0 w.drew)
  (h:C9 P l.toArray S C (fun k a'=>∀w',C k w'→Q' .normal a' w') 0 l a):(Code.region id l.toArray true).wp P Q' a w:=by
 simp only [Region.lexB,aH] at hB
 refine XI hm (IB (C:=C) (S:=S) (Q:=fun k a'=>∀w',C k w'→Q' .normal a' w') hS (fun k a w' hw' h=>h w' hw') _ _ 0 _ _ hC ?_)
 have:=Gu (P:=P) (S:=S) (C:=C) (md:=.any) (Q:=fun k a'=>∀w',C k w'→Q' .normal a' w') hB.1 hch l 0 (Array.replicate l.toArray.size false) 0 a (by simp) (by simp) (by simp;intro j hj;simp [hj]) (by simpa using hB.2) h
 simpa using this
end
structure dS (S:World→Prop) where
 w:World
 h:S w
theorem gY {P:Program}{α : Type}{s:Sem α}{k:α→Sem Next}{w w':World}{f:FuncId}{args:Array Value}(h:∀x w,(k x).run P w≠.ok (.enter f args) w'):(s >>= k).run P w≠.ok (.enter f args) w':=by
 rw [WU]
 cases s.run P w with
 | ok x w1=>exact h x w1
 | halt x w1=>simp [Result.andThen]
theorem jH {P:Program}{v:Value}{w w':World}{f:FuncId}{args:Array Value}:(pure (Next.value v):Sem Next).run P w≠.ok (.enter f args) w':=by simp [Sem.run_pure]
theorem Az {P:Program}{b:Builtin}{ts:Array TypeId}{t:TypeId}{cs:Array Bool}{xs:Array Value}{w w':World}{f:FuncId}{args:Array Value}(hb:(match b with | .print=>true | .println=>true | _=>false)=false):(builtin b ts t cs xs).run P w≠.ok (.enter f args) w':=by
 have hv:∀(s:Sem Value),(do pure (Next.value (← s)):Sem Next).run P w≠.ok (.enter f args) w':=fun s=>gY fun _ _=>jH
 cases b <;> simp only [builtin] <;> first | exact hv _ | (simp at hb;done) | (simp [Sem.run_pure];done) | exact gY (fun _ _=>jH) | (unfold stuck;simp;done) | (unfold unsupported;simp;done)
theorem zo {P:Program}{o:Oper}{ρ : Operand→Value}{w w':World}{f:FuncId}{args:Array Value}(hc:gG o=false):(execOp ρ o).run P w≠.ok (.enter f args) w':=by
 have hv:∀(s:Sem Value),(do pure (Next.value (← s)):Sem Next).run P w≠.ok (.enter f args) w':=fun s=>gY fun _ _=>jH
 have hu:∀(s:Sem Unit),(do s;pure Next.skip:Sem Next).run P w≠.ok (.enter f args) w':=fun s=>gY fun _ _=>by simp [Sem.run_pure]
 obtain⟨dst,op,type,pos,after,guard⟩:=o
 cases op
 case call c =>
  obtain⟨callee,xs,ts⟩:=c
  cases callee with
  | builtin b =>
   simp only [execOp,resolve,pure_bind,invoke]
   exact Az (by simpa [gG] using hc)
  | value f=>simp [gG] at hc
  | invoke r m=>simp [gG] at hc
 case nilCheck x =>
  simp only [execOp]
  split
  ·simp [runtimePanic]
  ·simp [runtimePanic]
  ·simp [runtimePanic]
  ·split
   ·simp [runtimePanic]
   ·refine gY fun _ _=>gY fun _ _=>?_
    split
    ·exact gY fun _ _=>jH
    ·exact jH
   ·exact jH
  ·exact jH
 case recv t c b =>
  simp only [execOp]
  refine gY fun x _=>?_
  split
  ·exact gY fun _ _=>by simp [Sem.run_pure]
  ·simp [stuck]
 case select cs b =>
  simp only [execOp]
  exact gY fun _ _=>by simp [Sem.run_pure]
 case go c =>
  simp only [execOp]
  exact gY fun _ _=>by simp [Sem.run_pure]
 case defer c =>
  simp only [execOp]
  exact gY fun _ _=>by simp [Sem.run_pure]
 case pick c x y =>
  simp only [execOp]
  exact gY fun _ _=>jH
 all_goals simp only [execOp]
 all_goals first
  | exact hv _
  | exact hu _
  | (simp [Sem.run_pure];done)
section
variable {P : Program} {ops : Array Oper} {S : World → Prop} {C : Nat → World → Prop} {Q : Nat → Act → Prop} {k : Nat} {o : Oper} {rest : List Oper} {a : Act}
theorem kY (hc:gG o=false)(h:∀K:Act→Prop,Shut (∀a,C9 P ops S C Q k rest a→K a)→wpQuiet P ops (fun w'=>∃x:dS S,w'=x.w) K [o] a):C9 P ops S C Q k (o :: rest) a:=by
 have h1:=h (C9 P ops S C Q k rest) (fun _ h=>h)
 unfold wpQuiet at h1
 split at h1
 ·rename_i hw
  obtain⟨v,h2,h3⟩:=h1
  refine⟨v,k,.inl ⟨hw,fun w hS=>?_,rfl⟩,h3⟩
  have h4:=h2 w ⟨⟨w,hS⟩,rfl⟩
  unfold Oper.quietAt at h4
  generalize hr:(execOp a.eval o).run P w=r at h4
  cases r with
  | halt x w'=>exact h4.elim
  | ok n w' =>
   cases n <;> simp only [Oper.quietUpon] at h4
   case value u=>obtain⟨rfl,rfl⟩:=h4;exact .inl rfl
   case skip=>obtain⟨rfl,rfl⟩:=h4;exact .inr ⟨rfl,rfl⟩
   case enter f args=>exact absurd hr (zo hc)
 ·rename_i hw
  exact⟨undef,k,.inr (.inr ⟨by simpa using hw,rfl,rfl⟩),h1⟩
theorem kW (hw:Region.wanted o (yielded ops a.tmps)=false)(h:C9 P ops S C Q k rest (a.put o.dst undef)):C9 P ops S C Q k (o :: rest) a :=
 ⟨undef,k,.inr (.inr ⟨hw,rfl,rfl⟩),h⟩
theorem nN {f:FuncId}{args:Array Value}(v:Value)(hw:Region.wanted o (yielded ops a.tmps)=true)(hc:gG o=true)(hx:∀w,(execOp a.eval o).run P w=.ok (.enter f args) w)
  (hC:∀w,C k w→Calls P f args w (fun e w'=>e=.returned v∧C (k+1) w'))(h:C9 P ops S C Q (k+1) rest (a.put o.dst v)):C9 P ops S C Q k (o :: rest) a :=
 ⟨v,k+1,.inr (.inl ⟨hw,hc,fun w hw'=>⟨f,args,hx w,hC w hw'⟩,rfl⟩),h⟩
theorem Ku (h:Q k a):C9 P ops S C Q k [] a:=h
end
end Go.Proofs.YtfelmdkeaacfeaaGreatDoor.W
end
section
namespace Go.Proofs.YtfelmdkeaacfeaaGreatDoor.W
open Go.RowKit
structure Ob where
 P:World→Prop
 F:Nat→Prop
 here:∀w,P w→∀k,F k→k < w.heap.size
 loc:∀w w',P w→(∀k,F k→w'.heap[k]? = w.heap[k]?)→P w'
structure All (B:Nat) (w0:World) (l:List Ob) (w:World):Prop where
 P:∀o∈l,o.P w
 apart:l.Pairwise fun a b=>∀k,a.F k→¬b.F k
 base:∀o∈l,∀k,o.F k→B≤k
 below:Below B w0 w
 le:B≤w.heap.size
theorem All.head {B:Nat}{w0 w:World}{o:Ob}{l:List Ob}(h:All B w0 (o :: l) w):o.P w:=h.P o (by simp)
theorem All.mid {B:Nat}{w0 w:World}{o:Ob}{l1 l2:List Ob}(h:All B w0 (l1 ++ o :: l2) w):o.P w:=h.P o (by simp)
theorem All.start (w:World):All w.heap.size w [] w:=⟨by simp,by simp,by simp,ak _ _,au _⟩
theorem All.still {B:Nat}{w0 w w':World}{l:List Ob}(h:All B w0 l w)(k:Below w.heap.size w w'):All B w0 l w' :=
 ⟨fun o ho=>o.loc w w' (h.P o ho) fun i hi=>k.block i (o.here w (h.P o ho) i hi),h.apart,h.base,h.below.trans (k.mono h.le),aQ h.le k.size⟩
theorem All.drew {B:Nat}{w0 w:World}{l:List Ob}(h:All B w0 l w):All B w0 l w.drew:=h.still ((ak _ _).drew)
theorem All.alloc {B:Nat}{w0 w:World}{l:List Ob}(h:All B w0 l w)(o:Obj):All B w0 l (w.alloc o):=h.still ((ak _ _).alloc (au _) _)
theorem All.step {B:Nat}{w0 w w':World}{o o':Ob}(l1:List Ob){l2:List Ob}(h:All B w0 (l1 ++ o :: l2) w)(hp:o'.P w')(hc:dU o.F w w')(hk:∀k,o'.F k→o.F k∨w.heap.size≤k):All B w0 (l1 ++ o' :: l2) w':=by
 have ap:=h.apart
 rw [Xj] at ap
 obtain⟨a1,a2,a3⟩:=ap
 rw [lS] at a2
 have hB:∀k,o.F k→B≤k:=h.base o (by simp)
 have other:∀x,x∈l1∨x∈l2→x.P w'∧(∀k,x.F k→¬o'.F k):=by
  intro x hx
  have hxP:x.P w:=h.P x (by rcases hx with hx | hx <;> simp [hx])
  have hxo:∀k,x.F k→¬o.F k:=by
   rcases hx with hx | hx
   ·exact a3 x hx o (by simp)
   ·exact fun k hk ho=>a2.1 x hx k ho hk
  refine⟨x.loc w w' hxP fun k hk=>hc.block k (x.here w hxP k hk) (hxo k hk),fun k hk ho'=>?_⟩
  rcases hk':(‹∀k,o'.F k→o.F k∨w.heap.size≤k› k ho') with h1 | h1
  ·exact hxo k hk h1
  ·have:=x.here w hxP k hk;omega
 refine⟨?_,?_,?_,?_,aQ h.le hc.size⟩
 ·intro x hx
  rw [cZ,bn] at hx
  rcases hx with hx | rfl | hx
  ·exact(other x (.inl hx)).1
  ·exact hp
  ·exact(other x (.inr hx)).1
 ·rw [Xj]
  refine⟨a1,?_,?_⟩
  ·rw [lS]
   exact⟨fun x hx k ho' hk=>(other x (.inr hx)).2 k hk ho',a2.2⟩
  ·intro x hx y hy
   rw [bn] at hy
   rcases hy with rfl | hy
   ·exact(other x (.inl hx)).2
   ·exact a3 x hx y (by simp [hy])
 ·intro x hx k hk'
  rw [cZ,bn] at hx
  rcases hx with hx | rfl | hx
  ·exact h.base x (by simp [hx]) k hk'
  ·rcases hk k hk' with h1 | h1
   ·exact hB k h1
   ·exact aQ h.le h1
  ·exact h.base x (by simp [hx]) k hk'
 ·exact h.below.trans (hc.below h.le hB)
theorem All.new {B:Nat}{w0 w w':World}{o:Ob}{l:List Ob}(h:All B w0 l w)(hp:o.P w')(hb:Below w.heap.size w w')(hk:∀k,o.F k→w.heap.size≤k):All B w0 (o :: l) w':=by
 have h':=h.still hb
 refine⟨?_,?_,?_,h'.below,h'.le⟩
 ·intro x hx
  rcases bn.1 hx with rfl | hx
  ·exact hp
  ·exact h'.P x hx
 ·rw [lS]
  exact⟨fun x hx k h1 h2=>by have:=hk k h1;have:=x.here w (h.P x hx) k h2;omega,h.apart⟩
 ·intro x hx k h1
  rcases bn.1 hx with rfl | hx
  ·exact aQ h.le (hk k h1)
  ·exact h.base x hx k h1
theorem All.tail {B:Nat}{w0 w:World}{a:Ob}{l:List Ob}(h:All B w0 (a :: l) w):All B w0 l w :=
 ⟨fun o ho=>h.P o (by simp [ho]),(lS.1 h.apart).2,fun o ho=>h.base o (by simp [ho]),h.below,h.le⟩
theorem All.sub {B:Nat}{w0 w:World}{l l':List Ob}(h:All B w0 l w)(hs:l'.Sublist l):All B w0 l' w :=
 ⟨fun o ho=>h.P o (hs.subset ho),h.apart.sublist hs,fun o ho=>h.base o (hs.subset ho),h.below,h.le⟩
theorem All.after {B:Nat}{w0 w w':World}{l1 l2:List Ob}(h:All B w0 l1 w)(k:All w.heap.size w l2 w'):All B w0 (l2 ++ l1) w':=by
 have h':=h.still k.below
 refine⟨?_,?_,?_,h'.below,h'.le⟩
 ·intro o ho
  rcases cZ.1 ho with ho | ho
  ·exact k.P o ho
  ·exact h'.P o ho
 ·rw [Xj]
  refine⟨k.apart,h.apart,fun a ha b hb i h1 h2=>?_⟩
  have:=k.base a ha i h1
  have:=b.here w (h.P b hb) i h2
  omega
 ·intro o ho i hi
  rcases cZ.1 ho with ho | ho
  ·exact aQ h.le (k.base o ho i hi)
  ·exact h.base o ho i hi
def sl (e:TypeId)(size:Nat)(v:Value)(n:Nat)(xs:List Value):Ob :=
 ⟨fun w=>Own w e size v n xs,fun k=>v.ownBlock=some k,fun w h k hk=>jy h hk,fun w w' h k=>iO h k⟩
def bk (g:Nat)(cs:List Value)(t:TypeId):Ob :=
 ⟨fun w=>dD w g cs t,fun k=>k=g,fun w h k hk=>hk ▸ h.lt,fun w w' h k=>h.kept (k g rfl)⟩
theorem All.nil {B:Nat}{w0 w:World}{l:List Ob}(h:All B w0 l w)(e:TypeId)(size:Nat):All B w0 (sl e size (.slice none 0 0) 0 [] :: l) w :=
 h.new (aG _ _ _ _) (ak _ _) (by intro k hk;simp [sl,Value.ownBlock] at hk)
theorem All.sO {B:Nat}{w0 w:World}{l:List Ob}(h:All B w0 l w)(cs:List Value)(t:TypeId):All B w0 (bk w.heap.size cs t :: l) (w.alloc (.cells cs.toArray t)) :=
 h.new (dD.new w cs t) ((ak _ _).alloc (au _) _) (by intro k hk;have:k=w.heap.size:=hk;omega)
theorem All.U4 {B:Nat}{w0 w:World}(l1:List Ob){l2:List Ob}{g:Nat}{cs:List Value}{t:TypeId}(h:All B w0 (l1 ++ bk g cs t :: l2) w)(j:Nat)(u:Value):All B w0 (l1 ++ bk g (cs.set j u) t :: l2) (w.setCell ⟨g,j,none⟩ u) :=
 h.step l1 (o':=bk g (cs.set j u) t) (dD.set h.mid j u) ((dU.refl (bk g cs t).F w).setCell ⟨g,j,none⟩ (fun _=>(rfl:g=g)) u) (fun k hk=>.inl hk)
end Go.Proofs.YtfelmdkeaacfeaaGreatDoor.W
end
