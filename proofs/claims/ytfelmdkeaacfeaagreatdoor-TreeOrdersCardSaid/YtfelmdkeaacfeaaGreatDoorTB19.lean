/- Texts joined: TwC AtS Lng AddF. -/
import Derived.Test.YtfelmdkeaacfeaaGreatDoorTB1
import Derived.Test.YtfelmdkeaacfeaaGreatDoorTB17
import Derived.Test.YtfelmdkeaacfeaaGreatDoorTB18
import Derived.Maps.Own
import Derived.Maps.Views
import Derived.StringKeys
import Derived.Test.YtfelmdkeaacfeaaGreatDoorTB10
import Derived.Test.YtfelmdkeaacfeaaGreatDoorTB8
import Derived.Test.YtfelmdkeaacfeaaGreatDoorTB16
import Derived.Test.YtfelmdkeaacfeaaGreatDoorTB13
import Derived.RegionTactic
import Derived.BigRegion
set_option maxRecDepth 100000
set_option maxHeartbeats 40000000
set_option linter.unusedVariables false
set_option linter.unusedSimpArgs false
section
namespace Go.Proofs.YtfelmdkeaacfeaaGreatDoor.W
open Go.RowKit
theorem zV.same {c:Nat}{n n':Nd}(h:zV c n)(h1:n'.kind=n.kind)(h2:n'.name=n.name)(h3:n'.attrs=n.attrs)(h4:n'.data=n.data):zV c n' :=
 ⟨by rw [h1];exact h.kd,by rw [h1,h2,h4];exact h.el,by rw [h1,h2,h3,h4];exact h.tx,by rw [h1,h2,h3,h4];exact h.dc,by rw [h3];exact h.at_,by rw [h3];exact h.nd,by rw [h3];exact h.al,by rw [h4];exact h.dl,by rw [h2];exact h.nl⟩
theorem Cm.two {S K d S' K' d' i KJ P r}(C:Cm S K d S' K' d' i KJ P r){q:Nat}(hq:(S'.at q).isSome=true)(hn:¬(S.at q).isSome=true):∃y∈P,q=r y∧K' q=(KJ y).map r:=by
 rcases C.Vl q hq with h | ⟨y,hy,rfl⟩
 ·exact absurd h hn
 ·exact⟨y,hy,rfl,C.kn y hy⟩
theorem Cm.ML {S K d S' K' d' i KJ P r}(C:Cm S K d S' K' d' i KJ P r)(hJ:∀x∈P,∀k∈KJ x,k∈P){x q:Nat}(hx:(S.at x).isSome=true)(h:x∈K' q):(S.at q).isSome=true∧x∈K q:=by
 have hq:=(C.lk.kin q x h).1
 by_cases e:(S.at q).isSome=true
 ·exact⟨e,by rw [← (C.old q e).2.1];exact h⟩
 ·obtain⟨y,hy,rfl,hk⟩:=C.two hq e
  rw [hk] at h
  obtain⟨k,hk,e2⟩:=bC.1 h
  have:=(C.new k (hJ y hy k hk)).1
  rw [e2] at this
  rw [this] at hx;cases hx
theorem iP.copied {c:Nat}{S:Tr}{K:Nat→List Nat}{d:Nat→Nat}{S' K' d' i KJ P r}(T:iP c S K d)(C:Cm S K d S' K' d' i KJ P r)(hJ:∀x∈P,∀k∈KJ x,k∈P∧k∈K x)(hz:∀x∈P,x≠0):iP c S' K' d':=by
 have back:∀x n',S'.at x=some n'→S.at x=some n'∨(S.at x=none∧∃y n,y∈P∧x=r y∧S.at y=some n∧n'.kind=n.kind∧n'.name=n.name∧n'.attrs=n.attrs∧n'.data=n.data):=fun x n' hx=>by
  cases e:S.at x with
  | some n =>
   rw [← (C.old x (by rw [e];rfl)).1,hx] at e
   exact .inl e.symm
  | none =>
   obtain⟨y,hy,rfl,_⟩:=C.two (q:=x) (by rw [hx];rfl) (by rw [e];decide)
   obtain⟨_,n,n2,h1,h2,h3⟩:=C.new y hy
   rw [hx] at h2;cases h2
   exact .inr ⟨rfl,y,n,hy,rfl,h1,h3⟩
 have hz0:(S.at 0).isSome=true:=by obtain⟨n,hn,_⟩:=T.doc;rw [hn];rfl
 refine⟨C.lk,fun x n' hx=>?_,fun p np hp=>?_,C.fr,C.rZ,by rw [C.root,C.hd];exact T.root,?_,fun x n' hx h0=>?_,fun p h=>?_⟩
 ·rcases back x n' hx with h | ⟨_,y,n,hy,rfl,h1,h2,h3,h4,h5⟩
  ·exact T.nd x n' h
  ·exact(T.nd y n h1).same h2 h3 h4 h5
 ·rcases back p np hp with h | ⟨h0,y,n,hy,rfl,h1,h2,_⟩
  ·rw [(C.old p (by rw [h];rfl)).2.1]
   have hin:∀q m,q∈K p→S'.at q=some m→S.at q=some m:=fun q m hq hm=>by
    rw [(C.old q (T.lk.kin p q hq).2).1] at hm;exact hm
   rcases T.J4 p np h with h | h | ⟨h6,h7,h8⟩
   ·exact .inl h
   ·exact .inr (.inl h)
   ·exact .inr (.inr ⟨h6,fun q m hq hm=>h7 q m hq (hin q m hq hm),fun q q' m m' a1 a2 a3 a4=>h8 q q' m m' a1 a2 (hin q m a1 a3) (hin q' m' a2 a4)⟩)
  ·have hnk:=T.other y n h1 (hz y hy)
   rcases T.J4 y n h1 with h | h | ⟨h,_⟩
   ·refine .inl ?_
    rw [C.kn y hy]
    have:KJ y=[]:=XN.2 fun k hk=>by have:=(hJ y hy k hk).2;rw [h] at this;cases this
    rw [this];rfl
   ·exact .inr (.inl (h2.trans h))
   ·exact absurd h hnk
 ·obtain⟨n,hn,hk⟩:=T.doc
  exact⟨n,by rw [(C.old 0 hz0).1];exact hn,hk⟩
 ·rcases back x n' hx with h | ⟨_,y,n,hy,rfl,h1,h2,_⟩
  ·exact T.other x n' h h0
  ·rw [h2];exact T.other y n h1 (hz y hy)
 ·exact T.vN p (C.ML (fun x hx k hk=>(hJ x hx k hk).1) hz0 h).2
def IA (M:List MN)(ψ : Nat→Nat)(KM:Nat→List Nat)(top:Nat)(x:Nat):MN:=⟨(KX M x).kind,(KX M x).name,(KX M x).attrs,(KX M x).data,if x=top then none else(KX M x).par.map ψ,(KM x).map ψ,false⟩
def yT (n:Nat)(σ : Nat→Nat)(l:List Nat)(j:Nat):Nat:=if j < n then σ j else l.getD (j - n) 0
theorem x9 {M L:List MN}{j:Nat}(h:j < M.length):lv (M ++ L) j=lv M j:=by
 unfold lv;rw [di h]
theorem yf {M L:List MN}{j:Nat}(h:M.length≤j):lv (M ++ L) j=lv L (j - M.length):=by
 unfold lv;rw [bZ h]
theorem GX {l:List Nat}(hn:l.Nodup){t x:Nat}(h:l[t]? = some x)(k:Nat):vM l k x=k+t:=by
 unfold vM
 have hx:=ah h
 have h1:l[l.idxOf x]? = some x:=by
  have:=XW hx
  rw [ay this,List.getElem_idxOf]
 have:=(iK (XW hx) hn).1 (h1.trans h.symm)
 omega
theorem Tw.copied {ex:Prop}{E:Nat→Prop}{c:Nat}{S:Tr}{K:Nat→List Nat}{d:Nat→Nat}{M:List MN}{σ : Nat→Nat}{S' K' d' KJ r}(W:Tw ex E c S K M σ)(L:Lk S K d){i:Nat}{P:List Nat}{KM:Nat→List Nat}
  (hP:∀x∈P,∃mx,lv M x=some mx)(hnd:P.Nodup)(hcl:∀x∈P,∀k∈KM x,k∈P∧k≠i∧∃mk,lv M k=some mk∧mk.par=some x)(hpar:∀x∈P,x≠i→∃p∈P,(KX M x).par=some p∧x∈KM p)
  (C:Cm S K d S' K' d' (σ i) KJ (P.map σ) r)(hKJ:∀x∈P,KJ (σ x)=(KM x).map σ)(hE:∀x∈P,¬E (r (σ x)))(hf:M.length+P.length≤10000) :
  Tw ex E c S' K' (M ++ P.map (IA M (vM P M.length) KM i)) (yT M.length σ (Jf P.length S.fl)):=by
 have hsl:Jf P.length S.fl=P.map (fun x=>r (σ x)):=by
  have:=C.sl
  rw [nK,bM] at this
  exact this.symm
 have hold:∀{j m},lv M j=some m→yT M.length σ (Jf P.length S.fl) j=σ j:=fun {j m} h=>by unfold yT;rw [aC (kH ⟨m,h⟩)]
 have hnew:∀{t x},P[t]? = some x→yT M.length σ (Jf P.length S.fl) (M.length+t)=r (σ x):=fun {t x} h=>by
  unfold yT
  rw [ax (by omega),hsl,dV,bI,show M.length+t - M.length=t by omega,h];rfl
 have hψ : ∀{x},x∈P→yT M.length σ (Jf P.length S.fl) (vM P M.length x)=r (σ x):=fun {x} hx=>by
  obtain⟨t,ht⟩:=aI.1 hx
  rw [GX hnd ht];exact hnew ht
 have hlive:∀{j m},lv M j=some m→(S.at (σ j)).isSome=true:=fun {j m} h=>by obtain⟨n,hn,_⟩:=W.node j m h;rw [hn];rfl
 have hup:∀{j m},lv M j=some m→lv (M ++ P.map (IA M (vM P M.length) KM i)) j=some m:=fun {j m} h=>by rw [x9 (kH ⟨m,h⟩)];exact h
 have hupN:∀{t x},P[t]? = some x→lv (M ++ P.map (IA M (vM P M.length) KM i)) (M.length+t)=some (IA M (vM P M.length) KM i x):=fun {t x} h=>by
  rw [yf (by omega),show M.length+t - M.length=t by omega]
  exact DX (by rw [bI,h];rfl) rfl
 have hupψ : ∀{x},x∈P→lv (M ++ P.map (IA M (vM P M.length) KM i)) (vM P M.length x)=some (IA M (vM P M.length) KM i x):=fun {x} hx=>by
  obtain⟨t,ht⟩:=aI.1 hx
  rw [GX hnd ht];exact hupN ht
 have cases':∀{j m},lv (M ++ P.map (IA M (vM P M.length) KM i)) j=some m→lv M j=some m∨∃t x,P[t]? = some x∧x∈P∧j=M.length+t∧m=IA M (vM P M.length) KM i x:=fun {j m} h=>by
  by_cases e:j < M.length
  ·rw [x9 e] at h;exact .inl h
  ·rw [yf (by omega)] at h
   obtain⟨h1,_⟩:=lV h
   rw [bI,bJ] at h1
   obtain⟨x,hx,e2⟩:=h1
   exact .inr ⟨j - M.length,x,hx,ah hx,by omega,e2.symm⟩
 have hnl:∀{x},x∈P→S.at (r (σ x))=none:=fun {x} hx=>(C.new (σ x) (bC.2 ⟨x,hx,rfl⟩)).1
 have hJP:∀y∈P.map σ,∀k∈KJ y,k∈P.map σ:=fun y hy k hk=>by
  obtain⟨x,hx,rfl⟩:=bC.1 hy
  rw [hKJ x hx] at hk
  obtain⟨z,hz,rfl⟩:=bC.1 hk
  exact bC.2 ⟨z,(hcl x hx z hz).1,rfl⟩
 refine⟨fun j m hj=>?_,fun j m hj=>?_,fun j k mj mk hj hk e=>?_,?_,fun j m p hj hp=>?_,fun p mp k hp hk=>?_,fun j m hj hp q=>?_,fun y hy=>?_,fun j m hj=>?_,fun j m hj=>?_,by rw [aA,bM];exact hf⟩
 ·rcases cases' hj with h | ⟨t,x,ht,hx,rfl,rfl⟩
  ·obtain⟨n,hn,rest⟩:=W.node j m h
   exact⟨n,by rw [hold h,(C.old _ (hlive h)).1];exact hn,rest⟩
  ·obtain⟨mx,hmx⟩:=hP x hx
   obtain⟨n,hn,h1,h2,h3,h4⟩:=W.node x mx hmx
   obtain⟨_,n1,n',a1,a2,a3,a4,a5,a6⟩:=C.new (σ x) (bC.2 ⟨x,hx,rfl⟩)
   rw [hn] at a1;cases a1
   refine⟨n',by rw [hnew ht];exact a2,?_⟩
   unfold IA
   rw [vP hmx]
   exact⟨a3.trans h1,a4.trans h2,a6.trans h3,fun e=>a5.trans (h4 e)⟩
 ·rcases cases' hj with h | ⟨t,x,ht,hx,rfl,rfl⟩
  ·rw [hold h,(C.old _ (hlive h)).2.1,W.kids j m h]
   refine fM fun k hk=>?_
   obtain⟨mk,h1,_⟩:=W.kid j m k h hk
   exact(hold h1).symm
  ·rw [hnew ht,C.kn (σ x) (bC.2 ⟨x,hx,rfl⟩),hKJ x hx]
   show((KM x).map σ).map r=((KM x).map (vM P M.length)).map _
   rw [nK,nK]
   refine fM fun k hk=>?_
   exact(hψ (hcl x hx k hk).1).symm
 ·rcases cases' hj with h | ⟨t,x,ht,hx,rfl,rfl⟩ <;> rcases cases' hk with h' | ⟨t',x',ht',hx',rfl,rfl⟩
  ·rw [hold h,hold h'] at e;exact W.inj j k mj mk h h' e
  ·rw [hold h,hnew ht'] at e
   have:=hlive h
   rw [e,hnl hx'] at this;cases this
  ·rw [hold h',hnew ht] at e
   have:=hlive h'
   rw [← e,hnl hx] at this;cases this
  ·rw [hnew ht,hnew ht'] at e
   have e1:=C.inj (σ x) (bC.2 ⟨x,hx,rfl⟩) (σ x') (bC.2 ⟨x',hx',rfl⟩) e
   obtain⟨m1,g1⟩:=hP x hx
   obtain⟨m2,g2⟩:=hP x' hx'
   have e2:=W.inj x x' m1 m2 g1 g2 e1
   subst e2
   have:=(iK (ai.1 ht).1 hnd).1 (ht.trans ht'.symm)
   omega
 ·obtain⟨z,m0,hz⟩:=W.zero
  exact⟨(hold hz).trans z,m0,hup hz⟩
 ·rcases cases' hj with h | ⟨t,x,ht,hx,rfl,rfl⟩
  ·obtain⟨mp,h1,h2⟩:=W.par j m p h hp
   exact⟨mp,hup h1,h2⟩
  ·simp only [IA] at hp
   by_cases e:x=i
   ·rw [aC e] at hp;cases hp
   ·rw [ax e] at hp
    obtain⟨q,hq,h1,h2⟩:=hpar x hx e
    rw [h1] at hp;cases hp
    refine⟨_,hupψ hq,?_⟩
    show M.length+t∈(KM q).map (vM P M.length)
    exact bC.2 ⟨x,h2,GX hnd ht _⟩
 ·rcases cases' hp with h | ⟨t,x,ht,hx,rfl,rfl⟩
  ·obtain⟨mk,h1,h2⟩:=W.kid p mp k h hk
   exact⟨mk,hup h1,h2⟩
  ·obtain⟨z,hz,rfl⟩:=bC.1 (show k∈(KM x).map (vM P M.length) from hk)
   obtain⟨h1,h2,mz,h3,h4⟩:=hcl x hx z hz
   refine⟨_,hupψ h1,?_⟩
   simp only [IA]
   rw [ax h2,vP h3,h4,← GX hnd ht];rfl
 ·rcases cases' hj with h | ⟨t,x,ht,hx,rfl,rfl⟩
  ·rw [hold h]
   exact fun hq=>W.top j m h hp q (C.ML hJP (hlive h) hq).2
  ·rw [hnew ht]
   simp only [IA] at hp
   by_cases e:x=i
   ·rw [e];exact C.top q
   ·rw [ax e] at hp
    obtain⟨q,hq,h1,h2⟩:=hpar x hx e
    rw [h1] at hp;cases hp
 ·by_cases e:(S.at y).isSome=true
  ·rcases W.cover y e with h | ⟨j,m,h1,h2⟩
   ·exact .inl h
   ·exact .inr ⟨j,m,hup h1,(hold h1).trans h2⟩
  ·obtain⟨z,hz,rfl,_⟩:=C.two hy e
   obtain⟨x,hx,rfl⟩:=bC.1 hz
   exact .inr ⟨_,_,hupψ hx,hψ hx⟩
 ·rcases cases' hj with h | ⟨t,x,ht,hx,rfl,rfl⟩
  ·rw [hold h];exact W.off j m h
  ·rw [hnew ht];exact hE x hx
 ·rcases cases' hj with h | ⟨t,x,ht,hx,rfl,rfl⟩
  ·exact W.ma j m h
  ·obtain⟨mx,hmx⟩:=hP x hx
   unfold IA
   rw [vP hmx]
   exact W.ma x mx hmx
theorem UX (w:World):(zeroValue 4).run Tryz.prog w=.ok (.bool false) w:=by kernel_rfl
noncomputable abbrev pB:Value→Option (DataW Unit×List MemPlace):=plainElem Tryz.prog 4
theorem xU {P:Program}{e:TypeId}(he:P.underlying e=some .bool){v:Value}{z:DataW Unit×List MemPlace}(h:plainElem P e v=some z):∃c,v=.bool c∧z=(.lit (.bool c),[]):=by
 unfold plainElem at h
 rw [he] at h
 cases v <;> simp at h
 exact⟨_,rfl,h.symm⟩
theorem BB {w:World}{b n:Nat}{D:DataW Unit}(h:w.ownsMap Tryz.prog 9 pB b n D)(s:ByteArray)(hs:s.size≤maxLen):∃c,(Instr.lookup 168 (.map (some b)) (.string s) false).run Tryz.prog w=.ok (.bool c) w∧D.atKey (.string s.data.toList) (.lit (.bool false))=.lit (.bool c):=by
 obtain⟨v,ps,hrun,hv⟩:=h.lookup (Maps.string_keyed Tryz.underlying9) Tryz.underlying168 (UX w) (plainElem_bool Tryz.underlying4 false) (Yg Tryz.underlying9 hs)
 obtain⟨c,rfl,hc⟩:=xU Tryz.underlying4 hv
 simp only [Prod.mk.injEq] at hc
 exact⟨c,hrun,hc.1⟩
theorem Bf {w:World}{b n:Nat}{D:DataW Unit}(h:w.ownsMap Tryz.prog 9 pB b n D)(hn:n≤1000)(s:ByteArray)(hs:s.size≤maxLen):∃w',(Instr.mapUpdate 168 (.map (some b)) (.string s) (.bool true)).run Tryz.prog w=.ok () w'∧w'.ownsMap Tryz.prog 9 pB b (n+1) (D.put (.string s.data.toList) (.lit (.bool true)))∧w.grownBy w' (some b) :=
 h.update (Maps.string_keyed Tryz.underlying9) Tryz.underlying168 (by unfold maxLen;omega) (Yg Tryz.underlying9 hs) (plainElem_bool Tryz.underlying4 true)
theorem GY {w w':World}{b n:Nat}{D:DataW Unit}(h:w.ownsMap Tryz.prog 9 pB b n D)(e:w'.heap[b]? = w.heap[b]?):w'.ownsMap Tryz.prog 9 pB b n D:=by
 obtain⟨es,clock,h1,h2⟩:=h
 exact⟨es,clock,e.trans h1,h2⟩
theorem pM {w w':World}{b n:Nat}{D:DataW Unit}(h:w.ownsMap Tryz.prog 9 pB b n D)(hb:Below w.heap.size w w'):w'.ownsMap Tryz.prog 9 pB b n D:=GY h (hb.block b h.lt)
def TJ (al:List jR)(i:Nat)(D:DataW Unit):Prop:=Maps.IsMap D∧∀s:List UInt8,D.atKey (.string s) (.lit (.bool false))=.lit (.bool (decide (s∈(al.take i).map (·.1))))
theorem TJ.zero (al:List jR):TJ al 0 (.map []):=⟨Maps.isMap_empty,fun s=>by simp [DataW.atKey]⟩
theorem TJ.put {al:List jR}{i:Nat}{D:DataW Unit}(h:TJ al i D){y:jR}(hy:al[i]? = some y):TJ al (i+1) (D.put (.string y.1) (.lit (.bool true))):=by
 refine⟨h.1.put _ _,fun s=>?_⟩
 have e:(al.take (i+1)).map (·.1)=(al.take i).map (·.1) ++ [y.1]:=by rw [fJ,hy];simp
 rw [e]
 by_cases hs:s=y.1
 ·subst hs
  rw [Maps.atKey_put_same h.1 (by trivial)]
  simp
 ·rw [Maps.atKey_put_other (by intro e2;exact hs (by cases e2;rfl)),h.2 s]
  simp [hs]
def V6 (w:World)(al:List jR)(iv:Value)(wr:World):Prop :=
 ∃(i:Nat) (D:DataW Unit),i≤al.length∧iv=.int .i64 (i:Int)∧QY al i∧wr.ownsMap Tryz.prog 9 pB w.heap.size i D∧TJ al i D∧Below w.heap.size w wr
theorem OJ (al:List jR)(hal:al.length≤100)(has:∀a∈al,a.1.length≤1000∧a.2.length≤1000)(v:Value)(w:World)(hT:Laid w)(hv:Own w 91 2 v al.length (cu al)) :
  Calls Tryz.prog 87 #[v] w fun e w'=>e=.returned (.bool (jL al))∧Below w.heap.size w w':=by
 have hmm:=@run_makeMap Tryz.prog
 have HHd:=ae (fun(a:jR) (ha:a∈al) wx (hx:Below w.heap.size w wx)=>yC a.1 (by have:=(has a ha).1;omega) wx (hT.below hx))
 have HSz:=ae (fun(a:jR) (ha:a∈al)=>(show(⟨a.1.toArray⟩:ByteArray).size≤maxLen from by have:=(has a ha).1;unfold maxLen;rw [Gl];omega))
 obtain⟨va0,vc0,rfl⟩:=aW hv
 have HVc:=ae (fun(j:Nat) (y:jR) (hy:al[j]? = some y) wx (hb:Below w.heap.size w wx)=>(show ∃ga,va0=some ⟨ga,0,none⟩∧ga < w.heap.size∧wx.cell? ⟨ga,j*2,none⟩=some (.string ⟨y.1.toArray⟩)∧wx.cell? ⟨ga,j*2+1,none⟩=some (.string ⟨y.2.toArray⟩) from by
  have hl:=(ai.1 hy).1
  obtain⟨ga,hga⟩:∃g,va0=some ⟨g,0,none⟩:=by
   rcases hv.2 with ⟨e,e2⟩ | ⟨g,cap,cur,e,_⟩
   ·omega
   ·simp only [bD] at e;exact⟨g,e.1⟩
  subst hga
  have ho:=bH hv hb
  have h1:=iM ho (2*j) _ (kz al j y hy).1
  have h2:=iM ho (2*j+1) _ (kz al j y hy).2
  rw [aP,aJ] at h1 h2
  exact⟨ga,rfl,jy hv rfl,by rw [uT];exact h1,by rw [uT j];exact h2⟩))
 clear hv has hT
 go_enter Tryz.func87,Tryz.ntmps87
 go_wp2_with fail
 go_loopw [9] (fun iv wr=>V6 w al iv wr) (fun iv _=>al.length - iW iv)
 case atStart=>exact⟨0,.map [],by omega,rfl,fun j y hj=>absurd hj (by omega),World.ownsMap_made _ _ _ _,TJ.zero al,(ak _ _).alloc (au _) _⟩
 case round =>
  obtain⟨i,D,hi,rfl,hnm,hown,hnd,hbr⟩:=hrel
  have HNm:=ae hnm
  have HOr:=ae hown
  have HBr:=ae hbr
  have HNd:=ae hnd
  clear hnm hown hnd hbr
  by_cases hil:i < al.length
  ·obtain⟨y,hy⟩:∃y,al[i]? = some y:=⟨_,ay hil⟩
   have hym:=ah hy
   obtain⟨ga,rfl,hga,cn,cv⟩:=HVc.out i y hy _ HBr.out
   have HY:=ae hy
   have HYm:=ae hym
   clear hy hym
   go_wp2_with fail
   have hb1:Below wr.heap.size wr (wr.alloc (.cells #[.string ⟨y.1.toArray⟩,.string ⟨y.2.toArray⟩] 91)):=(ak _ _).alloc (au _) _
   have hbx:=aV HBr.out hb1
   have k1:=dD.new wr [.string ⟨y.1.toArray⟩,.string ⟨y.2.toArray⟩] 91
   refine(HHd.out y HYm.out _ hbx).mono ?_
   rintro e w4 ⟨rfl,hb4⟩
   have HB4:=ae (aV hbx hb4)
   have k4:=dD.below k1 hb4
   have HO4:=ae (pM (pM HOr.out hb1) hb4)
   have hne:wr.heap.size≠w.heap.size:=by have:=HOr.out.lt;omega
   clear hb4 cn cv HOr HBr hb1 hbx k1
   have c0:=k4.cell 0
   simp only [List.getElem?_cons_zero] at c0
   have K4:=ae k4
   clear k4
   have hsz:=HSz.out y HYm.out
   cases hhd:headB y.1
   ·have HN:=ae (xY HY.out hhd)
    clear hhd
    go_wp2_with fail
    go_ret
    exact⟨by rw [HN.out];rfl,HB4.out⟩
   have HHx:=ae hhd
   clear hhd
   obtain⟨c,hrun,hat⟩:=BB HO4.out ⟨y.1.toArray⟩ hsz
   have hat2:=HNd.out.2 y.1
   rw [show(⟨y.1.toArray⟩:ByteArray).data.toList=y.1 from rfl] at hat
   rw [hat] at hat2
   cases c
   ·obtain⟨w5,hst,ho5,hg5⟩:=Bf HO4.out (by omega) ⟨y.1.toArray⟩ hsz
    have HAt:=ae hat2
    have HO5:=ae ho5
    have HB5:=ae (show Below w.heap.size w w5 from⟨hg5.os.trans HB4.out.os,hg5.tape.trans HB4.out.tape,hg5.output.trans HB4.out.output,by have:=HB4.out.size;have:=hg5.size;omega,fun k hk=>(hg5.block k (by have:=HB4.out.size;omega) (by simp;omega)).trans (HB4.out.block k hk)⟩)
    have c5:w5.cell? ⟨wr.heap.size,0,none⟩=_:=(K4.out.kept (hg5.block _ K4.out.lt (by simpa using hne))).cell 0
    simp only [List.getElem?_cons_zero] at c5
    clear hat hat2 ho5 hg5
    go_wp2_with fail
    refine⟨⟨i+1,_,by omega,by simp,?_,HO5.out,HNd.out.put HY.out,HB5.out⟩,by simp only [iW];omega⟩
    intro j z hj hz
    by_cases e:j=i
    ·subst e
     rw [HY.out] at hz;cases hz
     refine⟨HHx.out,fun k z hk hz e=>?_⟩
     have:=HAt.out
     simp only [DataW.lit.injEq,Lit.bool.injEq] at this
     have hm:y.1∈(al.take j).map (·.1):=bC.2 ⟨z,ah (by rw [eX,aC hk];exact hz),e⟩
     exact of_decide_eq_false this.symm hm
    ·exact HNm.out j z (by omega) hz
   ·have HAt:=ae hat2
    clear hat hat2
    go_wp2_with fail
    go_ret
    have hm:y.1∈(al.take i).map (·.1):=by
     have:=HAt.out
     simp only [DataW.lit.injEq,Lit.bool.injEq] at this
     exact tq this.symm
    obtain⟨z,hz,hzy⟩:=bC.1 hm
    obtain⟨k,hk⟩:=aI.1 hz
    rw [eX] at hk
    by_cases hki:k < i
    ·rw [aC hki] at hk
     exact⟨by rw [xX HY.out hk hki hzy];rfl,HB4.out⟩
    ·rw [ax hki] at hk;cases hk
  ·obtain rfl:i=al.length:=by omega
   have hn:=xW HNm.out
   go_wp2_with fail
   go_ret
   exact⟨by rw [hn];rfl,HBr.out⟩
theorem Rx (s:List UInt8)(a:ByteArray)(hs:s.length≤1048576)(w:World):Calls Tryz.prog 89 #[.agg #[.string a,.string ⟨s.toArray⟩]] w fun e w'=>e=.returned (.bool false)∧Below w.heap.size w w':=by
 have HL:=ae (fun wx=>lW ⟨s.toArray⟩ (by rw [Gl];omega) wx)
 have hd:decide (1048576 < (⟨s.toArray⟩:ByteArray).size)=false:=by rw [Gl];simp;omega
 have c1:=(dD.new w [.string a,.string ⟨s.toArray⟩] 91).cell 1
 simp only [fQ,fP] at c1
 go_enter Tryz.func89,Tryz.ntmps89
 go_wp2_with fail
 refine(HL.out _).mono ?_
 rintro e w2 ⟨rfl,rfl⟩
 rw [hd]
 go_wp2_with fail
 go_ret
 exact⟨rfl,(ak _ _).alloc (au _) _⟩
theorem Oo {B:Nat}{w:World}{v:Value}{l:List (List UInt8×List UInt8)}(h:jA B w v l)(hl:l.length≤1000)(has:∀a∈l,a.2.length≤1048576) :
  Calls Tryz.prog 103 #[v,.func (.func 89) #[] #[]] w fun e w'=>e=.returned (.int .i64 (-1))∧Below w.heap.size w w':=by
 obtain⟨va,vc,rfl,hcs⟩:=h
 have HC:=ae hcs
 have HA:=ae has
 clear hcs has
 go_enter Tryz.func103,Tryz.ntmps103
 go_wp2_with fail
 go_loopw [8] (fun iv wr=>∃k:Nat,k≤l.length∧iv=.int .i64 (k:Int)∧Below w.heap.size w wr) (fun iv _=>l.length - iW iv)
 case atStart=>exact⟨0,aZ _,rfl,ak _ _⟩
 case round =>
  obtain⟨k,hk,rfl,hB⟩:=hrel
  by_cases hkl:k < l.length
  ·obtain⟨y,hy⟩:∃y,l[k]? = some y:=⟨_,ay hkl⟩
   rcases HC.out with rfl | ⟨vg,cur,rfl,_,hgg,hcc⟩
   ·simp at hkl
   have hgl:=gp hgg
   have q0:wr.cell? ⟨vg,k*2,none⟩=some (dA y.1):=by
    rw [hB.cell (p:=⟨vg,k*2,none⟩) hgl,show k*2=2*k by omega]
    rw [iQ hgg]
    exact(hcc k y hy).1
   have q1:wr.cell? ⟨vg,k*2+1,none⟩=some (dA y.2):=by
    rw [hB.cell (p:=⟨vg,k*2+1,none⟩) hgl,show k*2+1=2*k+1 by omega]
    rw [iQ hgg]
    exact(hcc k y hy).2
   have HP1:=ae (Rx y.2 ⟨y.1.toArray⟩ (HA.out y (ah hy)) wr)
   clear hy hgg hcc
   simp only [dA] at q0 q1
   go_wp2_with fail
   refine HP1.out.mono ?_
   rintro e w2 ⟨rfl,hb2⟩
   go_wp2_with fail
   exact⟨⟨k+1,by omega,by go_num,hB.trans (hb2.mono hB.size)⟩,by simp only [iW];omega⟩
  ·go_wp2_with fail
   go_ret
   exact⟨rfl,hB⟩
theorem Ii {B:Nat}{w:World}{v:Value}{l:List (List UInt8×List UInt8)}(h:jA B w v l)(hl:l.length≤1000)(has:∀a∈l,a.2.length≤1048576) :
  Calls Tryz.prog 88 #[v,.func (.func 89) #[] #[]] w fun e w'=>e=.returned (.bool false)∧Below w.heap.size w w':=by
 have H:=ae (Oo h hl has)
 clear h
 go_enter Tryz.func88,Tryz.ntmps88
 go_wp2_with fail
 refine H.out.mono ?_
 rintro e w' ⟨rfl,hw⟩
 go_wp2_with fail
 go_ret
 exact⟨rfl,hw⟩
theorem wK (x:Option Nd)(l:List (Option Nd)):nS (x :: l)=jB x ++ nS l:=by unfold nS;rw [eG]
theorem IY (l:List (Option Nd))(i:Nat)(x:Option Nd)(hi:i < l.length):nS (l.set i x)=kZ (nS l) (i*10) (jB x):=by
 induction l generalizing i with
 | nil=>simp at hi
 | cons y l ih =>
  cases i with
  | zero =>
   rw [List.set_cons_zero,wK,wK,uS]
   exact(IV (jB y) (jB x) (nS l) (by rw [jQ,jQ])).symm
  | succ i =>
   rw [List.set_cons_succ,wK,wK,ih i (by simpa using hi)]
   have:=Bo (jB y) (nS l) (jB x) (i*10)
   rw [jQ] at this
   rw [show(i+1)*10=10+i*10 by omega]
   exact this.symm
theorem FK {w:World}{B e size n:Nat}{v:Value}{xs:List Value}(h:Own w e size v n xs)(hb:∀k,v.ownBlock=some k→B≤k):w.ownsRow B e size v n xs:=by
 obtain⟨h1,h2⟩:=h
 refine⟨h1,h2.imp id ?_⟩
 rintro⟨g,cap,cur,rfl,_,rest⟩
 exact⟨g,cap,cur,rfl,hb g rfl,rest⟩
theorem PO {w:World}{B e size g n cap:Nat}{xs:List Value}(h:w.ownsRow B e size (.slice (some ⟨g,0,none⟩) (n+1) cap) (n+1) xs):w.ownsRow B e size (.slice (some ⟨g,0,none⟩) n cap) n (xs.take (n*size)):=by
 have hb:=(h.lt g rfl).1
 have h0:Own w e size (.slice (some ⟨g,0,none⟩) (n+1) cap) (n+1) xs:=iD h (aZ _)
 have h1:=Rw h0
 refine FK h1 (fun k hk=>by cases hk;exact hb)
theorem F7:∀(l:List (Option Nd)) (i:Nat) (n:Nd),l[i]? = some none→((l.set i (some n)).filter Option.isSome).length=(l.filter Option.isSome).length+1
 | [],i,n,h=>by simp at h
 | x :: l,0,n,h=>by
  simp at h;subst h
  simp
 | x :: l,i+1,n,h=>by
  have ih:=F7 l i n (by simpa using h)
  rw [List.set_cons_succ]
  cases x with
  | none=>simpa using ih
  | some y=>simpa using ih
theorem SS {B R g cap i:Nat}{S:Tr}{F:List Nat}{fv:Value}{w:World}(h:fZ B R S (.slice (some ⟨g,0,none⟩) S.slots.length cap) fv w)(hF:S.free=F ++ [i])(hi:S.slots[i]? = some none)(n:Nd)(hn:jA B w n.av n.attrs)(hfl:F.length≤1000000) :
  Calls Tryz.prog 85 #[.pointer (some ⟨R,0,none⟩),.agg #[.int .i64 n.kind,.string ⟨n.name.toArray⟩,n.av,.string ⟨n.data.toArray⟩,.int .i64 n.parent,.int .i64 n.first,.int .i64 n.last,.int .i64 n.prev,.int .i64 n.next]] w fun e w'=>∃fv',e=.returned (.int .i64 (S.hd i)) ∧
   fZ B R { S with slots:=S.slots.set i (some n),free:=F } (.slice (some ⟨g,0,none⟩) S.slots.length cap) fv' w'∧dU (fun k=>k=R∨k=g) w w'∧fv'.ownBlock=fv.ownBlock:=by
 have c0:=h.blk.cell 0
 have c1:=h.blk.cell 1
 have c2:=h.blk.cell 2
 have c3:=h.blk.cell 3
 have c4:=h.blk.cell 4
 have hlt:=h.blk.lt
 simp only [fQ,fP] at c0 c1 c2 c3 c4
 have hfr:=h.free
 rw [hF,aA,List.length_singleton] at hfr
 obtain⟨fg,fcap,hfv,hfc⟩:∃fg fcap,fv=.slice (some ⟨fg,0,none⟩) (F.length+1) fcap∧F.length+1≤fcap:=by
  rcases hfr.2 with ⟨_,e⟩ | ⟨fg,fcap,cur,e,_,_,hc,_⟩
  ·omega
  ·exact⟨fg,fcap,e,hc⟩
 subst hfv
 have hil:=(ai.1 hi).1
 have hfew:=h.few
 have ci:w.cell? ⟨fg,F.length,none⟩=some (.int .i64 (i:Int)):=by
  have:=hfr.cells (g:=fg) rfl F.length (.int .i64 (i:Int)) (by simp)
  rw [aP,aJ] at this
  exact this
 have hlv:S.live≤S.slots.length:=gU _ _
 obtain⟨av,acap,hav,_⟩:=id hn
 have hB1:=(ak w.heap.size w).alloc (au _) (.cells #[.int .i64 n.kind,.string ⟨n.name.toArray⟩,n.av,.string ⟨n.data.toArray⟩,.int .i64 n.parent,.int .i64 n.first,.int .i64 n.last,.int .i64 n.prev,.int .i64 n.next] 62)
 have hbx:=dD.new w [.int .i64 n.kind,.string ⟨n.name.toArray⟩,n.av,.string ⟨n.data.toArray⟩,.int .i64 n.parent,.int .i64 n.first,.int .i64 n.last,.int .i64 n.prev,.int .i64 n.next] 62
 have nb:R≠w.heap.size:=by omega
 have hgw:=(h.slots.lt g rfl).2
 have hfw:=(hfr.lt fg rfl).2
 have hRg:R≠g:=fun e=>by
  obtain⟨cur,hc⟩:=gJ h.slots (g:=g) rfl
  subst e
  exact dw hc h.blk (by decide) rfl
 have hRf:R≠fg:=fun e=>by
  obtain⟨cur,hc⟩:=gJ h.free (g:=fg) rfl
  subst e
  exact dw hc h.blk (by decide) rfl
 have hgf:g≠fg:=fun e=>by
  obtain⟨cur,hc⟩:=gJ h.free (g:=fg) rfl
  obtain⟨cur',hc'⟩:=gJ h.slots (g:=g) rfl
  subst e
  exact dw hc hc' (by decide) rfl
 have HT:=ae h
 have HN:=ae hn
 have HFr:=ae hfr
 have HHi:=ae hi
 have HF:=ae hF
 rw [hav] at hB1 hbx ⊢
 clear hn h hfr hi hF
 go_enter Tryz.func85,Tryz.ntmps85
 go_upto_region 1 with fail
 generalize w.alloc (.cells #[.int .i64 n.kind,.string ⟨n.name.toArray⟩,.slice av n.attrs.length acap,.string ⟨n.data.toArray⟩,.int .i64 n.parent,.int .i64 n.first,.int .i64 n.last,.int .i64 n.prev,.int .i64 n.next] 62)=W at *
 have e0:=aU hB1 c0
 have e1:=aU hB1 c1
 have e2:=aU hB1 c2
 have e3:=aU hB1 c3
 have e4:=aU hB1 c4
 have ei:=aU hB1 ci
 have zR:=(HT.out.below hB1).blk.free
 clear c0 c1 c2 c3 c4 ci
 go_upto_region 6 with fail
 have hT1:=HT.out.below hB1
 have kR:=hT1.blk.set 3 (.slice (some ⟨fg,0,none⟩) F.length fcap)
 simp only [List.set_cons_succ,List.set_cons_zero] at kR
 have kX:dD (W.setCell ⟨R,3,none⟩ (.slice (some ⟨fg,0,none⟩) F.length fcap)) w.heap.size _ _:=hbx.setOther ⟨R,3,none⟩ (fun e=>nb e.symm) _
 have hch1:dU (fun k=>k=R∨k=g) w (W.setCell ⟨R,3,none⟩ (.slice (some ⟨fg,0,none⟩) F.length fcap)):=(dU.of_below hB1).setCell ⟨R,3,none⟩ (fun _=>.inl rfl) _
 have hs1:(W.setCell ⟨R,3,none⟩ (.slice (some ⟨fg,0,none⟩) F.length fcap)).ownsRow B 159 10 (.slice (some ⟨g,0,none⟩) S.slots.length cap) S.slots.length (nS S.slots) :=
  gW hT1.slots (fun b hb=>aF _ _ _ _ (by cases hb;exact fun e=>hRg e.symm))
 have HR1:=ae kR
 have HX1:=ae kX
 have HC1:=ae hch1
 have HS1:=ae hs1
 clear kR kX hch1 hs1 zR hT1 hbx e0 e1 e2 e3 e4 ei
 generalize W.setCell ⟨R,3,none⟩ (.slice (some ⟨fg,0,none⟩) F.length fcap)=w1 at *
 have r0:=HR1.out.cell 0
 have r2:=HR1.out.cell 2
 have x0:=HX1.out.cell 0
 have x1:=HX1.out.cell 1
 have x2:=HX1.out.cell 2
 have x3:=HX1.out.cell 3
 have x4:=HX1.out.cell 4
 have x5:=HX1.out.cell 5
 have x6:=HX1.out.cell 6
 have x7:=HX1.out.cell 7
 have x8:=HX1.out.cell 8
 simp only [fQ,fP] at r0 r2 x0 x1 x2 x3 x4 x5 x6 x7 x8
 have sc:∀j,j < 10→w1.cell? ⟨g,i*10+j,none⟩=(jB none)[j]?:=fun j hj=>by
  have hl:j < (jB none).length:=by rw [jQ];exact hj
  rw [ay hl]
  have:=HS1.out.cells (g:=g) rfl (i*10+j) (jB none)[j] (by rw [GI _ _ _ HHi.out _ hj,ay hl])
  rw [aP,aJ] at this
  exact this
 have s0:=sc 0 (by omega)
 have s1:=sc 1 (by omega)
 have s2:=sc 2 (by omega)
 have s3:=sc 3 (by omega)
 have s4:=sc 4 (by omega)
 have s5:=sc 5 (by omega)
 have s6:=sc 6 (by omega)
 have s7:=sc 7 (by omega)
 have s8:=sc 8 (by omega)
 have s9:=sc 9 (by omega)
 simp only [jB,O1,dA,fQ,fP,Nat.add_zero] at s0 s1 s2 s3 s4 s5 s6 s7 s8 s9
 have sz:∀j,w1.frozen? ⟨g,j,none⟩=false:=fun j=>by
  rcases HS1.out.2 with ⟨e,_⟩ | ⟨g',cap',cur,e,_,hh,_⟩
  ·cases e
  ·cases e;exact kG hh _
 clear sc
 go_region
 have hrow2:=(gV (gV (gV (gV (gV (gV (gV (gV (gV (gV HS1.out (i*10) (.bool true)) (i*10+1) (.int .i64 n.kind)) (i*10+2) (.string ⟨n.name.toArray⟩)) (i*10+3) (.slice av n.attrs.length acap)) (i*10+4) (.string ⟨n.data.toArray⟩)) (i*10+5) (.int .i64 n.parent)) (i*10+6) (.int .i64 n.first)) (i*10+7) (.int .i64 n.last)) (i*10+8) (.int .i64 n.prev)) (i*10+9) (.int .i64 n.next))
 have hset:nS (S.slots.set i (some n))=_:=IY S.slots i (some n) hil
 simp only [jB,jd,hav,dA,kZ] at hset
 have hch2:=(((((((((((dU.refl (fun k=>k=g) w1).setCell ⟨g,i*10,none⟩ (fun _=>(rfl:g=g)) (.bool true)).setCell ⟨g,i*10+1,none⟩ (fun _=>(rfl:g=g)) (.int .i64 n.kind)).setCell ⟨g,i*10+2,none⟩ (fun _=>(rfl:g=g)) (.string ⟨n.name.toArray⟩)).setCell ⟨g,i*10+3,none⟩ (fun _=>(rfl:g=g)) (.slice av n.attrs.length acap)).setCell ⟨g,i*10+4,none⟩ (fun _=>(rfl:g=g)) (.string ⟨n.data.toArray⟩)).setCell ⟨g,i*10+5,none⟩ (fun _=>(rfl:g=g)) (.int .i64 n.parent)).setCell ⟨g,i*10+6,none⟩ (fun _=>(rfl:g=g)) (.int .i64 n.first)).setCell ⟨g,i*10+7,none⟩ (fun _=>(rfl:g=g)) (.int .i64 n.last)).setCell ⟨g,i*10+8,none⟩ (fun _=>(rfl:g=g)) (.int .i64 n.prev)).setCell ⟨g,i*10+9,none⟩ (fun _=>(rfl:g=g)) (.int .i64 n.next))
 have hR2:=HR1.out.qU hch2 (fun e=>hRg e)
 have HRow:=ae hrow2
 have HSet:=ae hset
 have HC2:=ae hch2
 have HR2:=ae hR2
 clear hrow2 hset hch2 hR2 r0 r2 x0 x1 x2 x3 x4 x5 x6 x7 x8 s0 s1 s2 s3 s4 s5 s6 s7 s8 s9 sz
 generalize ((((((((((w1.setCell ⟨g,i*10,none⟩ (.bool true)).setCell ⟨g,i*10+1,none⟩ (.int .i64 n.kind)).setCell ⟨g,i*10+2,none⟩ (.string ⟨n.name.toArray⟩)).setCell ⟨g,i*10+3,none⟩ (.slice av n.attrs.length acap)).setCell ⟨g,i*10+4,none⟩ (.string ⟨n.data.toArray⟩)).setCell ⟨g,i*10+5,none⟩ (.int .i64 n.parent)).setCell ⟨g,i*10+6,none⟩ (.int .i64 n.first)).setCell ⟨g,i*10+7,none⟩ (.int .i64 n.last)).setCell ⟨g,i*10+8,none⟩ (.int .i64 n.prev)).setCell ⟨g,i*10+9,none⟩ (.int .i64 n.next))=w2 at *
 have r0:=HR2.out.cell 0
 have r1:=HR2.out.cell 1
 have r4:=HR2.out.cell 4
 have rz:=HR2.out.free
 simp only [fQ,fP] at r0 r1 r4
 go_wp2_with fail
 refine(yh S.b S.s (i:Nat) _).mono ?_
 rintro e w3 ⟨rfl,hb3⟩
 go_wp2_with fail
 go_ret
 have hlf:=F7 S.slots i n HHi.out
 have k4:=(HR2.out.set 4 (.int .i64 ((S.live:Int)+1)))
 simp only [List.set_cons_succ,List.set_cons_zero] at k4
 have hch4:dU (fun k=>k=R∨k=g) w (w2.setCell ⟨R,4,none⟩ (.int .i64 ((S.live:Int)+1))):=(HC1.out.trans HC2.out (fun _ _ e=>.inr e)).setCell ⟨R,4,none⟩ (fun _=>.inl rfl) _
 replace hb3:Below (w2.setCell ⟨R,4,none⟩ (.int .i64 ((S.live:Int)+1))).heap.size (w2.setCell ⟨R,4,none⟩ (.int .i64 ((S.live:Int)+1))) w3:=⟨hb3.os,hb3.tape,hb3.output,hb3.size,hb3.block⟩
 have hch5:=hch4.trans (dU.of_below (F:=fun k=>k=R∨k=g) hb3) (fun _ _ e=>e)
 have oth:∀{k:Nat} {cs:Array Value} {t:TypeId},w.heap[k]? = some (.cells cs t (0,0))→t≠159→t≠57→w3.heap[k]? = w.heap[k]?:=fun {k cs t} hk h1 h2=>hch5.block k (gp hk) (fun e=>by
  rcases e with rfl | rfl
  ·exact dw hk HT.out.blk h2 rfl
  ·obtain⟨cur,hc⟩:=gJ HT.out.slots (g:=k) rfl
   exact dw hk hc h1 rfl)
 refine⟨.slice (some ⟨fg,0,none⟩) F.length fcap,rfl,⟨?_,?_,?_,?_,HT.out.base,by simp only [dI];exact hfew⟩,hch5,rfl⟩
 ·have:=k4.below hb3
  unfold Tr.live at *
  simp only []
  rw [hlf]
  exact this
 ·simp only [dI]
  rw [HSet.out]
  refine gW HRow.out (fun b hb=>?_)
  have hbg:b=g:=by cases hb;rfl
  subst hbg
  have hl2:b < w2.heap.size:=(HRow.out.lt b rfl).2
  exact(hb3.block b (by simp [World.setCell];exact hl2)).trans (aF _ _ _ _ (fun e=>hRg e.symm))
 ·have h1:=PO HFr.out
  have h2:=gW h1 (w':=w3) (fun b hb=>by
   obtain⟨cur,hc⟩:=gJ HT.out.free (g:=b) (by cases hb;rfl)
   exact oth hc (by decide) (by decide))
  have e:(List.map (fun(i:Nat)=>Value.int .i64 (i:Int)) (F ++ [i])).take (F.length*1)=F.map (fun(i:Nat)=>Value.int .i64 (i:Int)):=by
   rw [Nat.mul_one,ig,XO (by simp),sZ (by simp)]
  rw [e] at h2
  exact h2
 ·intro k m hk
  have hcase:(k=i∧m=n)∨S.slots[k]? = some (some m):=by
   simp only [] at hk
   rw [dH] at hk
   by_cases e:i=k
   ·rw [aC e,aC hil] at hk;cases hk;exact .inl ⟨e.symm,rfl⟩
   ·rw [ax e] at hk;exact .inr hk
  have keepA:∀{v l},jA B w v l→jA B w3 v l:=fun {v l} ha=>by
   obtain⟨a,c,e,h'⟩:=ha
   refine⟨a,c,e,h'.imp id ?_⟩
   rintro⟨b,cur,e2,hB,hg,hc⟩
   exact⟨b,cur,e2,hB,(oth hg (by decide) (by decide)).trans hg,hc⟩
  rcases hcase with ⟨rfl,rfl⟩ | hk
  ·exact keepA HN.out
  ·exact keepA (HT.out.attrs k m hk)
theorem add_any {B R:Nat}{S:Tr}{sv fv:Value}{w:World}(h:fZ B R S sv fv w)(hfr:∀i∈S.free,S.slots[i]? = some none)(hfl:S.free.length≤1000000)(hl:S.slots.length < 1000000)(n:Nd)(hn:jA B w n.av n.attrs) :
  Calls Tryz.prog 85 #[.pointer (some ⟨R,0,none⟩),.agg #[.int .i64 n.kind,.string ⟨n.name.toArray⟩,n.av,.string ⟨n.data.toArray⟩,.int .i64 n.parent,.int .i64 n.first,.int .i64 n.last,.int .i64 n.prev,.int .i64 n.next]] w fun e w'=>∃sv' fv',e=.returned (.int .i64 (S.hd S.mV)) ∧
   fZ B R (S.add n) sv' fv' w'∧dU (fun k=>k=R∨sv.ownBlock=some k) w w'∧(sv'.ownBlock=sv.ownBlock∨∃k,sv'.ownBlock=some k∧w.heap.size≤k)∧fv'.ownBlock=fv.ownBlock:=by
 cases e:S.free.getLast? with
 | none =>
  have e':S.free=[]:=by simpa using e
  have ha:S.add n=S.snoc n:=by unfold Tr.add;rw [e]
  have hi:S.mV=S.slots.length:=by unfold Tr.mV;rw [e];rfl
  rw [ha,hi]
  refine(Iq h e' hl n hn).mono ?_
  rintro e w' ⟨sv',rfl,h1,h2,h3⟩
  exact⟨sv',fv,rfl,h1,h2,h3,rfl⟩
 | some i =>
  obtain⟨F,hF⟩:=XZ.1 e
  have hi:=hfr i (wB e)
  have hil:=(ai.1 hi).1
  obtain⟨g,cap,rfl⟩:=fO h (by omega)
  have ha:S.add n={ S with slots:=S.slots.set i (some n),free:=F }:=by unfold Tr.add;rw [e,hF];simp
  have hi2:S.mV=i:=by unfold Tr.mV;rw [e];rfl
  rw [ha,hi2]
  refine(SS h hF hi n hn (by rw [hF] at hfl;simp at hfl;omega)).mono ?_
  rintro e w' ⟨fv',rfl,h1,h2,h3⟩
  exact⟨_,fv',rfl,h1,h2.mono (fun k _ hk=>hk.imp id (fun e=>by rw [e];rfl)),.inl rfl,h3⟩
end Go.Proofs.YtfelmdkeaacfeaaGreatDoor.W
end
