/- Texts joined: DoE SamP MaN DoF. -/
import Derived.Test.YtfelmdkeaacfeaaGreatDoorTB1
import Derived.Test.YtfelmdkeaacfeaaGreatDoorTB32
import Derived.Test.YtfelmdkeaacfeaaGreatDoorTB16
import Derived.Test.YtfelmdkeaacfeaaGreatDoorTB15
import Derived.Test.YtfelmdkeaacfeaaGreatDoorTB29
set_option maxRecDepth 100000
set_option maxHeartbeats 40000000
set_option linter.unusedVariables false
set_option linter.unusedSimpArgs false
section
namespace Go.Proofs.YtfelmdkeaacfeaaGreatDoor.W
open Go.RowKit
section
variable {ex : Prop} {E : Nat → Prop} {c x : Nat} {S : Tr} {K : Nat → List Nat} {d : Nat → Nat} {M : List MN} {σ : Nat → Nat} {R : Nat} {sv fv : Value} {w : World}
theorem yZ {i:Nat}{n:Nd}:(S.put i n).slots.length=S.slots.length:=iT S i n
theorem O8 (h:fZ 0 R S sv fv w)(L:Lk S K d)(i:Nat)(n:Nd)(hi:S.at i=some n)(hl:n.attrs.length≤64)(name val:List UInt8)(hn:name.length≤1000)(hv:val.length≤1000)(hT:Laid w) :
  Calls Tryz.prog 18 #[.pointer (some ⟨R,0,none⟩),.int .i64 (S.hd i),dA name,dA val] w (TI R S sv fv w (fun S' ls er=>∃W0 v,Cc W0 S i n name val S' v er ls)):=by
 obtain⟨g,cap,rfl⟩:=fO h (by have:=iy hi;omega)
 refine(IU h L i n hi hl name val hn hv hT).mono ?_
 rintro e w' ⟨S',v,er,ls,hx,rfl,hrc,hT',hC⟩
 have hf:S'.slots.length=S.slots.length∧∀k,yR R S' (.slice (some ⟨g,0,none⟩) S.slots.length cap) fv k→yR R S (.slice (some ⟨g,0,none⟩) S.slots.length cap) fv k∨w.heap.size≤k:=by
  cases id hx with
  | kind _=>exact⟨rfl,fun k hk=>.inl hk⟩
  | arg _ _=>exact⟨rfl,fun k hk=>.inl hk⟩
  | full _ _ _ _=>exact⟨rfl,fun k hk=>.inl hk⟩
  | add v av _ _ _ _ hfr=>exact⟨yZ,fun k hk=>CE hi (fun k hk=>.inr (hfr k hk)) k hk⟩
  | set v av k y _ _ _ _ hfr=>exact⟨yZ,fun k hk=>CE hi (fun k hk=>.inr (hfr k hk)) k hk⟩
 have hls:∃ts:List Rc,ls=ts.map encR:=by
  cases id hx with
  | kind _=>exact⟨[],rfl⟩
  | arg _ _=>exact⟨[],rfl⟩
  | full _ _ _ _=>exact⟨[],rfl⟩
  | add v av _ _ _ _ hfr=>exact⟨[⟨3,S.hd i,0,0,0,0,name,[],false,0,0⟩],rfl⟩
  | set v av k y _ _ _ _ hfr=>exact⟨[⟨3,S.hd i,0,0,0,0,name,y.2,true,0,0⟩],rfl⟩
 exact DK ⟨_,v,hx⟩ hrc hT' hf.1 hC hf.2 hls
theorem Pj (h:fZ 0 R S sv fv w)(L:Lk S K d)(i:Nat)(n:Nd)(hi:S.at i=some n)(hl:n.attrs.length≤64)(name:List UInt8) :
  Calls Tryz.prog 17 #[.pointer (some ⟨R,0,none⟩),.int .i64 (S.hd i),dA name] w (TI R S sv fv w (fun S' ls er=>∃W0 v,Iy W0 S i n name S' v er ls)):=by
 obtain⟨g,cap,rfl⟩:=fO h (by have:=iy hi;omega)
 refine(Ih h L i n hi hl name).mono ?_
 rintro e w' ⟨S',v,er,ls,hx,rfl,hrc,hT',hC⟩
 have hf:S'.slots.length=S.slots.length∧∀k,yR R S' (.slice (some ⟨g,0,none⟩) S.slots.length cap) fv k→yR R S (.slice (some ⟨g,0,none⟩) S.slots.length cap) fv k∨w.heap.size≤k:=by
  cases id hx with
  | kind _=>exact⟨rfl,fun k hk=>.inl hk⟩
  | no _ _=>exact⟨rfl,fun k hk=>.inl hk⟩
  | cut v av k y _ _ _ hfr=>exact⟨yZ,fun k hk=>CE hi (fun k hk=>.inr (hfr k hk)) k hk⟩
 have hls:∃ts:List Rc,ls=ts.map encR:=by
  cases id hx with
  | kind _=>exact⟨[],rfl⟩
  | no _ _=>exact⟨[],rfl⟩
  | cut v av k y _ _ _ hfr=>exact⟨[⟨3,S.hd i,0,0,0,0,name,y.2,true,0,0⟩],rfl⟩
 exact DK ⟨_,v,hx⟩ hrc hT' hf.1 hC hf.2 hls
theorem O9 (h:fZ 0 R S sv fv w)(L:Lk S K d)(i:Nat)(n:Nd)(hi:S.at i=some n)(hk:n.kind=1∨n.kind=2∨n.kind=3∨n.kind=4)(hl:n.data.length≤1048576)(ix cnt:Int)(h0:-1000≤ix)(h1:ix≤1000)(h2:-2000000≤cnt)(h3:cnt≤2000000)(s:List UInt8)(hs:s.length≤100000)(hT:Laid w) :
  Calls Tryz.prog 19 #[.pointer (some ⟨R,0,none⟩),.int .i64 (S.hd i),.int .i64 ix,.int .i64 cnt,dA s] w (TI R S sv fv w (fun S' ls er=>∃v,uJ S i n ix cnt s S' v er ls)):=by
 obtain⟨g,cap,rfl⟩:=fO h (by have:=iy hi;omega)
 refine(NV h L i n hi hk hl ix cnt h0 h1 h2 h3 s hs hT).mono ?_
 rintro e w' ⟨S',v,er,ls,hx,rfl,hrc,hT',hC⟩
 have hf:S'.slots.length=S.slots.length∧∀k,yR R S' (.slice (some ⟨g,0,none⟩) S.slots.length cap) fv k→yR R S (.slice (some ⟨g,0,none⟩) S.slots.length cap) fv k∨w.heap.size≤k:=by
  cases id hx with
  | kind _=>exact⟨rfl,fun k hk=>.inl hk⟩
  | rng _ _=>exact⟨rfl,fun k hk=>.inl hk⟩
  | long _ _=>exact⟨rfl,fun k hk=>.inl hk⟩
  | yes v _ _ _ _=>exact⟨yZ,fun k hk=>CE (n':={ n with data:=Ap n.data ix cnt s }) hi (fun k hk=>.inl ⟨hk,id⟩) k hk⟩
 have hls:∃ts:List Rc,ls=ts.map encR:=by
  cases id hx with
  | kind _=>exact⟨[],rfl⟩
  | rng _ _=>exact⟨[],rfl⟩
  | long _ _=>exact⟨[],rfl⟩
  | yes v _ _ _ _=>exact⟨[⟨4,S.hd i,0,0,0,ix,[],n.data,false,_,_⟩],rfl⟩
 exact DK ⟨v,hx⟩ hrc hT' hf.1 hC hf.2 hls
/-! ### both -/
inductive JU (S:Tr) (i:Nat) (n:Nd):Tr→Prop
 | same:JU S i n S
 | put (n':Nd):JU S i n (S.put i n')
theorem JU.facts {i:Nat}{n:Nd}(hi:S.at i=some n){S':Tr}(h:JU S i n S'):S'.b=S.b∧S'.s=S.s∧S'.fl=S.fl∧∀y,y≠i→S'.at y=S.at y:=by
 cases h with
 | same=>exact⟨rfl,rfl,rfl,fun _ _=>rfl⟩
 | put n'=>exact⟨rfl,rfl,by unfold Tr.fl;rw [iT];rfl,fun y hy=>by rw [dC hi,ax hy]⟩
inductive JV (M:List MN) (i:Nat):List MN→Prop
 | same:JV M i M
 | put (m':MN) (h:m'.gone=false):JV M i (M.set i m')
theorem JV.facts {i:Nat}{m:MN}(hi:lv M i=some m){M':List MN}(h:JV M i M'):M'.length=M.length∧∀j,(lv M' j).isSome=(lv M j).isSome:=by
 cases h with
 | same=>exact⟨rfl,fun _=>rfl⟩
 | put m' hg=>exact⟨by simp,EL hi hg⟩
theorem vY (W:Tw ex E c S K M σ)(cl:∀p k,k∈K p→(E p↔E k)){i:Nat}{m:MN}{n:Nd}(hi:lv M i=some m)(hn:S.at (σ i)=some n){S':Tr}{M':List MN}{ls:List (List Value)}{er en:Int}{rs:List Rc}(h1:JU S (σ i) n S')(h2:JV M i M')(T':iP (c+1) S' K d)(W':Tw ex E (c+1) S' K M' σ)
  (hr:∃ts:List Rc,ls=ts.map encR∧ts.length≤100∧(ex→er=en∧ts=rs.map (vC S σ))∧(er=en→Be M S σ ts rs)):Both ex E c S K M σ S' ls er M' rs en:=by
 obtain⟨f1,f2,f3,f4⟩:=h1.facts hn
 obtain⟨f5,f6⟩:=h2.facts hi
 exact⟨hr,⟨K,d,T',W',fun y hy=>⟨f4 y (fun e=>W.off i m hi (e ▸ hy)),rfl⟩,cl⟩,f1,f2,f3,f5,f6⟩
theorem Aq {i:Nat}{m:MN}(hi:lv M i=some m)(nm old:List UInt8)(had:Bool):∀r∈[Ae i nm old had],JS M r:=fun r hr=>by
 simp only [eF] at hr
 subst hr
 exact⟨nD hi,wV,wV,wV⟩
theorem vJ {i:Nat}{n:Nd}(hi:S.at i=some n):S.put i n=S:=by
 have h:=dN hi
 unfold Tr.put
 have:S.slots.set i (some n)=S.slots:=by
  apply gu
  intro j
  rw [dH]
  split
  ·rename_i e;subst e
   split
   ·exact h.symm
   ·rename_i h2;rw [bQ (by omega)]
  ·rfl
 rw [this]
theorem set_self {i:Nat}{m:MN}(hi:lv M i=some m):M.set i m=M:=by
 have h:=(lV hi).1
 apply gu
 intro j
 rw [dH]
 split
 ·rename_i e;subst e
  split
  ·exact h.symm
  ·rename_i h2;rw [bQ (by omega)]
 ·rfl
theorem Tw.part (hx:¬ex)(W:Tw ex E c S K M σ){i:Nat}{m m':MN}{n n':Nd}(hi:lv M i=some m)(hn:S.at (σ i)=some n)(h1:n'.kind=n.kind)(h2:n'.name=n.name)(h3:n'.data=n.data)(g1:m'.kind=m.kind)(g2:m'.name=m.name)(g3:m'.data=m.data)(g4:m'.par=m.par)(g5:m'.kids=m.kids)(g6:m'.gone=m.gone)(hm:m'.attrs.length≤c+2) :
  Tw ex E c (S.put (σ i) n') K (M.set i m') σ:=by
 obtain⟨n0,hn0,a1,a2,a3,_⟩:=W.node i m hi
 rw [hn] at hn0;cases hn0
 exact W.put hi hn (h1.trans (a1.trans g1.symm)) (h2.trans (a2.trans g2.symm)) (h3.trans (a3.trans g3.symm)) (fun e=>absurd e hx) g4 g5 (g6.trans (lV hi).2) hm
theorem UY (T:iP c S K d){i:Nat}{n:Nd}(hn:S.at i=some n){W0:Nat}{S':Tr}{name val:List UInt8}{v:Value}{er:Int}{ls:List (List Value)}(ht:Cc W0 S i n name val S' v er ls)(hna:name.length≤200)(hva:val.length≤50):iP c S' K d∧∃n',S'=S.put i n'∧n'.kind=n.kind∧n'.name=n.name∧n'.data=n.data:=by
 have hok:=T.nd _ n hn
 have hfx:=mO val
 have hnew:headB name=true→headB name=true∧Lib.validD (fix val)=true∧name.length≤200∧(fix val).length≤200:=fun h=>⟨h,wW _,hna,by omega⟩
 cases ht with
 | kind h=>exact⟨T,n,(vJ hn).symm,rfl,rfl,rfl⟩
 | arg _ _=>exact⟨T,n,(vJ hn).symm,rfl,rfl,rfl⟩
 | full _ _ _ _=>exact⟨T,n,(vJ hn).symm,rfl,rfl,rfl⟩
 | add v av hk h h1 h2 hfr =>
  refine⟨T.put hn rfl rfl rfl rfl rfl rfl (hok.attrs hk av _ (fun a ha=>?_) ?_ (by simp;omega)),_,rfl,rfl,rfl,rfl⟩
  ·rcases cZ.1 ha with ha | ha
   ·exact hok.at_ a ha
   ·rw [eF] at ha;subst ha;exact hnew h
  ·rw [ig,jf]
   refine⟨hok.nd,by simp,fun a ha b hb e=>?_⟩
   simp at hb
   subst hb e
   exact Jg h1 ha
 | set v av k y hk h h1 h2 hfr =>
  have hyn:=MQ h1 h2
  refine⟨T.put hn rfl rfl rfl rfl rfl rfl (hok.attrs hk av _ (fun a ha=>?_) ?_ (by simp;exact hok.al)),_,rfl,rfl,rfl,rfl⟩
  ·rcases DV ha with e | ha
   ·subst e;rw [hyn];exact hnew h
   ·exact hok.at_ a ha
  ·rw [zu h2];exact hok.nd
theorem QK (T:iP c S K d)(W:Tw ex E c S K M σ)(cl:∀p k,k∈K p→(E p↔E k))(hce:ex→c≤60){i:Nat}{m:MN}{n:Nd}(hi:lv M i=some m)(hn:S.at (σ i)=some n){name val:List UInt8}{S':Tr}{ls:List (List Value)}{er en:Int}{M':List MN}{rs:List Rc}
  (ht:∃W0 v,Cc W0 S (σ i) n name val S' v er ls)(hm:zW M i m name val M' rs en)(hna:name.length≤200)(hva:val.length≤50):Both ex E c S K M σ S' ls er M' rs en:=by
 obtain⟨W0,v,ht⟩:=ht
 have hg:=(lV hi).2
 have hPT:JU S (σ i) n S':=by
  cases ht with
  | kind _=>exact .same
  | arg _ _=>exact .same
  | full _ _ _ _=>exact .same
  | add v av _ _ _ _ _=>exact .put _
  | set v av k y _ _ _ _ _=>exact .put _
 have hPM:JV M i M':=by
  cases hm with
  | kind _=>exact .same
  | arg _ _=>exact .same
  | add _ _ _=>exact .put _ hg
  | set k y _ _ _ _=>exact .put _ hg
 by_cases hx:ex
 ·have W1:Tw True E c S K M σ:=W.weak (fun _=>hx)
  obtain⟨e1,e2,e3,e4⟩:=W1.Rk T hi hn hm ht hna hva (hce hx)
  have hok:(∀r∈rs,JS M r)∧rs.length≤1:=by
   cases hm with
   | kind _=>exact⟨by simp,by simp⟩
   | arg _ _=>exact⟨by simp,by simp⟩
   | add _ _ _=>exact⟨Aq hi _ _ _,by simp⟩
   | set k y _ _ _ _=>exact⟨Aq hi _ _ _,by simp⟩
  exact vY W cl hi hn hPT hPM e3 (e4.weak (fun _=>trivial)) ⟨rs.map (vC S σ),by rw [e2,nK];rfl,by rw [bM];omega,fun _=>⟨e1,rfl⟩,fun _=>.same rfl hok.1⟩
 ·obtain⟨T',n',hS',k1,k2,k3⟩:=UY T hn ht hna hva
  have hma:=W.ma i m hi
  have hW:Tw ex E (c+1) S' K M' σ:=by
   have W1:=W.mono (ed c)
   rw [hS']
   cases hm with
   | kind _=>have:=Tw.part hx W1 hi hn k1 k2 k3 rfl rfl rfl rfl rfl rfl (m':=m) (by omega);rwa [set_self hi] at this
   | arg _ _=>have:=Tw.part hx W1 hi hn k1 k2 k3 rfl rfl rfl rfl rfl rfl (m':=m) (by omega);rwa [set_self hi] at this
   | add _ _ _=>exact Tw.part hx W1 hi hn k1 k2 k3 rfl rfl rfl rfl rfl rfl (by simp;omega)
   | set k y _ _ _ _=>exact Tw.part hx W1 hi hn k1 k2 k3 rfl rfl rfl rfl rfl rfl (by simp;omega)
  have hq:∃ts:List Rc,ls=ts.map encR∧ts.length≤100∧Be M S σ ts rs:=by
   have key:∀(o1 o2:List UInt8) (b1 b2:Bool),rs=[Ae i name o2 b2]→Be M S σ [vC S σ (Ae i name o1 b1)] rs:=fun o1 o2 b1 b2 hrs=>by
    by_cases e:o1=o2∧b1=b2
    ·exact .same (by rw [hrs,e.1,e.2];rfl) (by rw [hrs];exact Aq hi _ _ _)
    ·exact .old i name o1 o2 b1 b2 rfl hrs ⟨m,hi⟩ (by by_cases e1:o1=o2;exact .inr (fun e2=>e ⟨e1,e2⟩);exact .inl e1)
   cases ht with
   | kind _=>exact⟨[],rfl,by simp,by cases rs with | nil=>exact .same rfl (by simp) | cons r t=>exact .len (by simp)⟩
   | arg _ _=>exact⟨[],rfl,by simp,by cases rs with | nil=>exact .same rfl (by simp) | cons r t=>exact .len (by simp)⟩
   | full _ _ _ _=>exact⟨[],rfl,by simp,by cases rs with | nil=>exact .same rfl (by simp) | cons r t=>exact .len (by simp)⟩
   | add v av _ _ _ _ _ =>
    refine⟨[vC S σ (Ae i name [] false)],by simp [Au],by simp,?_⟩
    cases hm with
    | kind _=>exact .len (by simp)
    | arg _ _=>exact .len (by simp)
    | add _ _ _=>exact key _ _ _ _ rfl
    | set k y _ _ _ _=>exact key _ _ _ _ rfl
   | set v av k y _ _ _ _ _ =>
    refine⟨[vC S σ (Ae i name y.2 true)],by simp [Au],by simp,?_⟩
    cases hm with
    | kind _=>exact .len (by simp)
    | arg _ _=>exact .len (by simp)
    | add _ _ _=>exact key _ _ _ _ rfl
    | set k y _ _ _ _=>exact key _ _ _ _ rfl
  obtain⟨ts,q1,q2,q3⟩:=hq
  exact vY W cl hi hn hPT hPM (T'.mono (ed c)) hW ⟨ts,q1,q2,fun h=>absurd h hx,fun _=>q3⟩
theorem QN (T:iP c S K d)(W:Tw ex E c S K M σ)(cl:∀p k,k∈K p→(E p↔E k)){i:Nat}{m:MN}{n:Nd}(hi:lv M i=some m)(hn:S.at (σ i)=some n){name:List UInt8}{S':Tr}{ls:List (List Value)}{er en:Int}{M':List MN}{rs:List Rc}
  (ht:∃W0 v,Iy W0 S (σ i) n name S' v er ls)(hm:Ci M i m name M' rs en):Both ex E c S K M σ S' ls er M' rs en:=by
 obtain⟨W0,v,ht⟩:=ht
 have hg:=(lV hi).2
 have hPT:JU S (σ i) n S':=by
  cases ht with
  | kind _=>exact .same
  | no _ _=>exact .same
  | cut v av k y _ _ _ _=>exact .put _
 have hPM:JV M i M':=by
  cases hm with
  | kind _=>exact .same
  | no _ _=>exact .same
  | cut k y _ _ _=>exact .put _ hg
 have hok:(∀r∈rs,JS M r)∧rs.length≤1:=by
  cases hm with
  | kind _=>exact⟨by simp,by simp⟩
  | no _ _=>exact⟨by simp,by simp⟩
  | cut k y _ _ _=>exact⟨Aq hi _ _ _,by simp⟩
 by_cases hx:ex
 ·have W1:Tw True E c S K M σ:=W.weak (fun _=>hx)
  obtain⟨e1,e2,e3,e4⟩:=W1.Sl T hi hn hm ht
  exact vY W cl hi hn hPT hPM (e3.mono (ed c)) ((e4.mono (ed c)).weak (fun _=>trivial)) ⟨rs.map (vC S σ),by rw [e2,nK];rfl,by rw [bM];omega,fun _=>⟨e1,rfl⟩,fun _=>.same rfl hok.1⟩
 ·have hma:=W.ma i m hi
  have hokn:=T.nd _ n hn
  have hT:iP c S' K d∧∃n',S'=S.put (σ i) n'∧n'.kind=n.kind∧n'.name=n.name∧n'.data=n.data:=by
   cases ht with
   | kind _=>exact⟨T,n,(vJ hn).symm,rfl,rfl,rfl⟩
   | no _ _=>exact⟨T,n,(vJ hn).symm,rfl,rfl,rfl⟩
   | cut v av k y hk h1 h2 hfr =>
    have hsub:(n.attrs.eraseIdx k).Sublist n.attrs:=lT _ _
    have hle:=hsub.length_le
    have hal:=hokn.al
    exact⟨T.put hn rfl rfl rfl rfl rfl rfl (hokn.attrs hk av _ (fun a ha=>hokn.at_ a (hsub.subset ha)) ((hsub.map _).nodup hokn.nd) (by omega)),_,rfl,rfl,rfl,rfl⟩
  obtain⟨T',n',hS',k1,k2,k3⟩:=hT
  have hW:Tw ex E (c+1) S' K M' σ:=by
   have W1:=W.mono (ed c)
   rw [hS']
   cases hm with
   | kind _=>have:=Tw.part hx W1 hi hn k1 k2 k3 rfl rfl rfl rfl rfl rfl (m':=m) (by omega);rwa [set_self hi] at this
   | no _ _=>have:=Tw.part hx W1 hi hn k1 k2 k3 rfl rfl rfl rfl rfl rfl (m':=m) (by omega);rwa [set_self hi] at this
   | cut k y _ _ _ =>
    have hle2:(m.attrs.eraseIdx k).length≤m.attrs.length:=(lT _ _).length_le
    exact Tw.part hx W1 hi hn k1 k2 k3 rfl rfl rfl rfl rfl rfl (by show(m.attrs.eraseIdx k).length≤_;omega)
  have hq:∃ts:List Rc,ls=ts.map encR∧ts.length≤100∧Be M S σ ts rs:=by
   cases ht with
   | kind _=>exact⟨[],rfl,by simp,by cases rs with | nil=>exact .same rfl (by simp) | cons r t=>exact .len (by simp)⟩
   | no _ _=>exact⟨[],rfl,by simp,by cases rs with | nil=>exact .same rfl (by simp) | cons r t=>exact .len (by simp)⟩
   | cut v av k y _ _ _ _ =>
    refine⟨[vC S σ (Ae i name y.2 true)],by simp [Au],by simp,?_⟩
    cases hm with
    | kind _=>exact .len (by simp)
    | no _ _=>exact .len (by simp)
    | cut k' y' _ _ _ =>
     by_cases e:y.2=y'.2
     ·exact .same (by rw [e];rfl) hok.1
     ·exact .old i name _ _ true true rfl rfl ⟨m,hi⟩ (.inl e)
  obtain⟨ts,q1,q2,q3⟩:=hq
  exact vY W cl hi hn hPT hPM (T'.mono (ed c)) hW ⟨ts,q1,q2,fun h=>absurd h hx,fun _=>q3⟩
theorem QL (T:iP c S K d)(W:Tw ex E c S K M σ)(cl:∀p k,k∈K p→(E p↔E k))(hc:c≤600){i:Nat}{m:MN}{n:Nd}(hi:lv M i=some m)(hn:S.at (σ i)=some n){ix cnt:Int}{s:List UInt8}{S':Tr}{ls:List (List Value)}{er en:Int}{M':List MN}{rs:List Rc}
  (ht:∃v,uJ S (σ i) n ix cnt s S' v er ls)(hm:Ce M i m ix cnt s M' rs en)(hs:s.length≤60):Both ex E c S K M σ S' ls er M' rs en:=by
 obtain⟨v,ht⟩:=ht
 have hg:=(lV hi).2
 have hPT:JU S (σ i) n S':=by
  cases ht with
  | kind _=>exact .same
  | rng _ _=>exact .same
  | long _ _=>exact .same
  | yes v _ _ _ _=>exact .put _
 have hPM:JV M i M':=by
  cases hm with
  | kind _=>exact .same
  | rng _ _=>exact .same
  | yes _ _ _ _=>exact .put _ hg
 have hok:(∀r∈rs,JS M r)∧rs.length≤1:=by
  cases hm with
  | kind _=>exact⟨by simp,by simp⟩
  | rng _ _=>exact⟨by simp,by simp⟩
  | yes _ _ _ _=>exact⟨fun r hr=>by simp only [eF] at hr;subst hr;exact⟨nD hi,wV,wV,wV⟩,by simp⟩
 obtain⟨e1,e2,e3,e4⟩:=W.rep T hi hn hm ht hs hc
 exact vY W cl hi hn hPT hPM e3 e4 ⟨rs.map (vC S σ),by rw [e2,nK];rfl,by rw [bM];omega,fun _=>⟨e1,rfl⟩,fun _=>.same rfl hok.1⟩
end
theorem QJ {a b:List UInt8}(h:a≠b):((⟨a.toArray⟩:ByteArray).toList == (⟨b.toArray⟩:ByteArray).toList)=false:=by
 rw [ByteArray.toList_eq,ByteArray.toList_eq,eY]
 simpa using h
theorem Og {w:World}{g:Nat}{v1 v2:Value}{l m:List Rc}(h1:Own w 41 11 v1 l.length (rows encR l))(h2:Own w 144 11 v2 m.length (rows encR m))(hne:l.length≠m.length) :
  Calls Tryz.prog 50 #[.pointer (some ⟨g,0,none⟩),v1,v2] w fun e w'=>e=.returned (.bool false)∧w'=w:=by
 obtain⟨a1,c1,rfl⟩:=aW h1
 obtain⟨a2,c2,rfl⟩:=aW h2
 have hd:((l.length:Int) != (m.length:Int))=true:=by simp;omega
 clear h1 h2
 go_enter Tryz.func50,Tryz.ntmps50
 go_wp2_with fail
 go_ret
 exact⟨rfl,rfl⟩
theorem Jm {w:World}{g:Nat}{a b hv v1 v2:Value}{Hs:List Int}{l m:List Rc}(h:dD w g [a,b,hv] 33)(ho:Own w 3 1 hv Hs.length (hC Hs))(hl:Hs.length≤100000){y z:Rc}(h1:Own w 41 11 v1 1 (rows encR [y]))(h2:Own w 144 11 v2 1 (rows encR [z]))
  (hyz:y={ Q4 Hs z with old:=y.old,had:=y.had })(hzr:nI z.target∧nI z.node∧nI z.prev∧nI z.next)(hne:y.old≠z.old) :
  Calls Tryz.prog 50 #[.pointer (some ⟨g,0,none⟩),v1,v2] w fun e w'=>e=.returned (.bool false)∧Below w.heap.size w w':=by
 obtain⟨a1,c1,rfl⟩:=aW h1
 obtain⟨a2,c2,rfl⟩:=aW h2
 have H1:=ae h1
 have H2:=ae h2
 have HH:=ae (fun wx (hb:Below w.heap.size w wx) v (hv:nI v)=>ry (h.below hb) (bH ho hb) hl v hv.1 hv.2)
 clear h1 h2 h ho
 go_enter Tryz.func50,Tryz.ntmps50
 go_wp2_with fail
 go_loopw [7] (fun iv wr=>iv=.int .i64 0∧Below w.heap.size w wr) (fun iv _=>0)
 case atStart=>exact⟨rfl,ak _ _⟩
 case round =>
  obtain⟨rfl,hB⟩:=hrel
  have hki:(0:Int) < (1:Int):=by omega
  obtain⟨g1,k1,he,qlt,q0,q1,q2,q3,q4,q5,q6,q7,q8,q9,q10⟩:=GU (l:=[y]) (bH H1.out hB) (k:=0) rfl
  simp only [bD,je,List.length_singleton] at he
  obtain⟨rfl,rfl⟩:=he
  obtain⟨g2,k2,he,plt,p0,p1,p2,p3,p4,p5,p6,p7,p8,p9,p10⟩:=DC (l:=[z]) (bH H2.out hB) (k:=0) rfl
  simp only [bD,je,List.length_singleton] at he
  obtain⟨rfl,rfl⟩:=he
  obtain⟨z0,z1,z2,z3,z4,z5,z6,z7,z8,z9,z10⟩:=z
  obtain⟨y0,_,_,_,_,y5,y6,y7,y8,y9,y10⟩:=y
  simp only [Q4,Rc.mk.injEq,jX,je] at hyz
  obtain⟨rfl,rfl,rfl,rfl,rfl,rfl,rfl,rfl,rfl⟩:=hyz
  simp only [uS,aJ] at q0 q1 q2 q3 q4 q5 q6 q7 q8 q9 q10 p0 p1 p2 p3 p4 p5 p6 p7 p8 p9 p10 hzr
  obtain⟨r1,r2,r3,r4⟩:=hzr
  have HH1:=ae (fun wx hb=>HH.out wx hb z1 r1)
  have HH2:=ae (fun wx hb=>HH.out wx hb z2 r2)
  have HH3:=ae (fun wx hb=>HH.out wx hb z3 r3)
  have HH4:=ae (fun wx hb=>HH.out wx hb z4 r4)
  clear r1 r2 r3 r4
  generalize (⟨y6.toArray⟩:ByteArray)=t6 at *
  have hb:=QJ hne
  generalize (⟨z7.toArray⟩:ByteArray)=t7 at *
  generalize (⟨y7.toArray⟩:ByteArray)=s7 at *
  generalize hnd Hs z1=y1 at *
  generalize hnd Hs z2=y2 at *
  generalize hnd Hs z3=y3 at *
  generalize hnd Hs z4=y4 at *
  go_upto_region 6 with fail
  go_cut [8,9] (fun pv qv wx=>VO wr [.int .i64 y0,.int .i64 y1,.int .i64 y2,.int .i64 y3,.int .i64 y4,.int .i64 y5,.string t6,.string s7,.bool y8,.int .i64 y9,.int .i64 y10] [.int .i64 y0,.int .i64 z1,.int .i64 z2,.int .i64 z3,.int .i64 z4,.int .i64 y5,.string t6,.string t7,.bool z8,.int .i64 y9,.int .i64 y10] pv qv wx)
  case first =>
   clear HH1 HH2 HH3 HH4 HH H1 H2
   go_region
   all_goals
    go_wp2_with fail
    go_meet
    first
    | exact⟨_,_,rfl,rfl,lI (qm (by simp)),lI (dD.alloc (qm rfl) _),(((ak wr.heap.size wr).alloc (au _) _).alloc (by simp) _).drew⟩
    | exact⟨_,_,rfl,rfl,lI (dD.alloc (qm rfl) _),lI (qm (by simp)),(((ak wr.heap.size wr).alloc (au _) _).alloc (by simp) _).drew⟩
  case rest =>
   obtain⟨pa,qb,rfl,rfl,ka,kb,hb8⟩:=hcut
   clear q0 q1 q2 q3 q4 q5 q6 q7 q8 q9 q10 p0 p1 p2 p3 p4 p5 p6 p7 p8 p9 p10 HH H1 H2
   have HB8:=ae (hB.trans (hb8.mono hB.size))
   go_upto_region 7 with fail
   have hne:=gI wc
   have xa:=fun(x:dS (jc wc))=>ka.below x.h
   have xb:=fun(x:dS (jc wc))=>kb.below x.h
   have a0:=fun x=>(xa x).cell 0
   have b0:=fun x=>(xb x).cell 0
   have a1:=fun x=>(xa x).cell 1
   have b1:=fun x=>(xb x).cell 1
   have a2:=fun x=>(xa x).cell 2
   have b2:=fun x=>(xb x).cell 2
   have a3:=fun x=>(xa x).cell 3
   have b3:=fun x=>(xb x).cell 3
   have a4:=fun x=>(xa x).cell 4
   have b4:=fun x=>(xb x).cell 4
   have a5:=fun x=>(xa x).cell 5
   have b5:=fun x=>(xb x).cell 5
   have a6:=fun x=>(xa x).cell 6
   have b6:=fun x=>(xb x).cell 6
   have a7:=fun x=>(xa x).cell 7
   have b7:=fun x=>(xb x).cell 7
   have a8:=fun x=>(xa x).cell 8
   have b8:=fun x=>(xb x).cell 8
   have a9:=fun x=>(xa x).cell 9
   have b9:=fun x=>(xb x).cell 9
   have a10:=fun x=>(xa x).cell 10
   have b10:=fun x=>(xb x).cell 10
   simp only [fQ,fP] at a0 a1 a2 a3 a4 a5 a6 a7 a8 a9 a10 b0 b1 b2 b3 b4 b5 b6 b7 b8 b9 b10
   clear xa xb ka kb
   refine KL (jc wc) (fun _=>jc wc) (by kernel_rfl) (by kernel_rfl) (by kernel_rfl) (fun _ _ h=>h) ((ak _ _).drew) ?_
   (try simp only [List.append_eq,List.cons_append,List.nil_append])
   repeat (first
    | (refine kY (by rfl) (fun K hK=>?_);go_big_quiet_step (fail);refine az ?_;refine hK.out _ ?_;clear hK K)
    | (refine kW (by rfl) ?_;simp only [Act.put,dL,dK,dJ]))
   refine nN (.int .i64 y1) (by rfl) (by rfl) (fun w=>by go_simp;exact⟨rfl,rfl⟩) ?_ ?_
   ·intro wx hx
    refine(HH1.out _ (aV HB8.out hx)).mono ?_
    rintro e wy ⟨rfl,hb⟩
    exact⟨rfl,by rw [hb];exact hx⟩
   simp only [Act.put,dL,dK,dJ]
   repeat (first
    | (refine kY (by rfl) (fun K hK=>?_);go_big_quiet_step (fail);refine az ?_;refine hK.out _ ?_;clear hK K)
    | (refine kW (by rfl) ?_;simp only [Act.put,dL,dK,dJ]))
   refine nN (.int .i64 y2) (by rfl) (by rfl) (fun w=>by go_simp;exact⟨rfl,rfl⟩) ?_ ?_
   ·intro wx hx
    refine(HH2.out _ (aV HB8.out hx)).mono ?_
    rintro e wy ⟨rfl,hb⟩
    exact⟨rfl,by rw [hb];exact hx⟩
   simp only [Act.put,dL,dK,dJ]
   repeat (first
    | (refine kY (by rfl) (fun K hK=>?_);go_big_quiet_step (fail);refine az ?_;refine hK.out _ ?_;clear hK K)
    | (refine kW (by rfl) ?_;simp only [Act.put,dL,dK,dJ]))
   refine nN (.int .i64 y3) (by rfl) (by rfl) (fun w=>by go_simp;exact⟨rfl,rfl⟩) ?_ ?_
   ·intro wx hx
    refine(HH3.out _ (aV HB8.out hx)).mono ?_
    rintro e wy ⟨rfl,hb⟩
    exact⟨rfl,by rw [hb];exact hx⟩
   simp only [Act.put,dL,dK,dJ]
   repeat (first
    | (refine kY (by rfl) (fun K hK=>?_);go_big_quiet_step (fail);refine az ?_;refine hK.out _ ?_;clear hK K)
    | (refine kW (by rfl) ?_;simp only [Act.put,dL,dK,dJ]))
   refine nN (.int .i64 y4) (by rfl) (by rfl) (fun w=>by go_simp;exact⟨rfl,rfl⟩) ?_ ?_
   ·intro wx hx
    refine(HH4.out _ (aV HB8.out hx)).mono ?_
    rintro e wy ⟨rfl,hb⟩
    exact⟨rfl,by rw [hb];exact hx⟩
   simp only [Act.put,dL,dK,dJ]
   repeat (first
    | (refine kY (by rfl) (fun K hK=>?_);go_big_quiet_step (fail);refine az ?_;refine hK.out _ ?_;clear hK K)
    | (refine kW (by rfl) ?_;simp only [Act.put,dL,dK,dJ]))
   refine Ku ?_
   intro w9 hb9
   have HB9:=ae (aV HB8.out hb9)
   clear a0 a1 a2 a3 a4 a5 a6 a7 a8 a9 a10 b0 b1 b2 b3 b4 b5 b6 b7 b8 b9 b10 hne hb9
   go_wp2_with fail
   go_ret
   exact⟨rfl,HB9.out⟩
theorem Jl {w:World}{g:Nat}{a b hv v1 v2:Value}{Hs:List Int}{l m:List Rc}(h:dD w g [a,b,hv] 33)(ho:Own w 3 1 hv Hs.length (hC Hs))(hl:Hs.length≤100000){y z:Rc}(h1:Own w 41 11 v1 1 (rows encR [y]))(h2:Own w 144 11 v2 1 (rows encR [z]))
  (hyz:y={ Q4 Hs z with old:=y.old,had:=y.had })(hzr:nI z.target∧nI z.node∧nI z.prev∧nI z.next)(hne:y.old=z.old∧y.had≠z.had) :
  Calls Tryz.prog 50 #[.pointer (some ⟨g,0,none⟩),v1,v2] w fun e w'=>e=.returned (.bool false)∧Below w.heap.size w w':=by
 obtain⟨a1,c1,rfl⟩:=aW h1
 obtain⟨a2,c2,rfl⟩:=aW h2
 have H1:=ae h1
 have H2:=ae h2
 have HH:=ae (fun wx (hb:Below w.heap.size w wx) v (hv:nI v)=>ry (h.below hb) (bH ho hb) hl v hv.1 hv.2)
 clear h1 h2 h ho
 go_enter Tryz.func50,Tryz.ntmps50
 go_wp2_with fail
 go_loopw [7] (fun iv wr=>iv=.int .i64 0∧Below w.heap.size w wr) (fun iv _=>0)
 case atStart=>exact⟨rfl,ak _ _⟩
 case round =>
  obtain⟨rfl,hB⟩:=hrel
  have hki:(0:Int) < (1:Int):=by omega
  obtain⟨g1,k1,he,qlt,q0,q1,q2,q3,q4,q5,q6,q7,q8,q9,q10⟩:=GU (l:=[y]) (bH H1.out hB) (k:=0) rfl
  simp only [bD,je,List.length_singleton] at he
  obtain⟨rfl,rfl⟩:=he
  obtain⟨g2,k2,he,plt,p0,p1,p2,p3,p4,p5,p6,p7,p8,p9,p10⟩:=DC (l:=[z]) (bH H2.out hB) (k:=0) rfl
  simp only [bD,je,List.length_singleton] at he
  obtain⟨rfl,rfl⟩:=he
  obtain⟨z0,z1,z2,z3,z4,z5,z6,z7,z8,z9,z10⟩:=z
  obtain⟨y0,_,_,_,_,y5,y6,y7,y8,y9,y10⟩:=y
  simp only [Q4,Rc.mk.injEq,jX,je] at hyz
  obtain⟨rfl,rfl,rfl,rfl,rfl,rfl,rfl,rfl,rfl⟩:=hyz
  simp only [uS,aJ] at q0 q1 q2 q3 q4 q5 q6 q7 q8 q9 q10 p0 p1 p2 p3 p4 p5 p6 p7 p8 p9 p10 hzr
  obtain⟨r1,r2,r3,r4⟩:=hzr
  have HH1:=ae (fun wx hb=>HH.out wx hb z1 r1)
  have HH2:=ae (fun wx hb=>HH.out wx hb z2 r2)
  have HH3:=ae (fun wx hb=>HH.out wx hb z3 r3)
  have HH4:=ae (fun wx hb=>HH.out wx hb z4 r4)
  clear r1 r2 r3 r4
  generalize (⟨y6.toArray⟩:ByteArray)=t6 at *
  obtain⟨h7,h8⟩:=hne
  simp only at h7 h8
  subst h7
  have hb:(y8 != z8)=true:=by cases y8 <;> cases z8 <;> simp_all
  have hb2:(y8 == z8)=false:=by cases y8 <;> cases z8 <;> simp_all
  generalize (⟨y7.toArray⟩:ByteArray)=t7 at *
  generalize hnd Hs z1=y1 at *
  generalize hnd Hs z2=y2 at *
  generalize hnd Hs z3=y3 at *
  generalize hnd Hs z4=y4 at *
  go_upto_region 6 with fail
  go_cut [8,9] (fun pv qv wx=>VO wr [.int .i64 y0,.int .i64 y1,.int .i64 y2,.int .i64 y3,.int .i64 y4,.int .i64 y5,.string t6,.string t7,.bool y8,.int .i64 y9,.int .i64 y10] [.int .i64 y0,.int .i64 z1,.int .i64 z2,.int .i64 z3,.int .i64 z4,.int .i64 y5,.string t6,.string t7,.bool z8,.int .i64 y9,.int .i64 y10] pv qv wx)
  case first =>
   clear HH1 HH2 HH3 HH4 HH H1 H2
   go_region
   all_goals
    go_wp2_with fail
    go_meet
    first
    | exact⟨_,_,rfl,rfl,lI (qm (by simp)),lI (dD.alloc (qm rfl) _),(((ak wr.heap.size wr).alloc (au _) _).alloc (by simp) _).drew⟩
    | exact⟨_,_,rfl,rfl,lI (dD.alloc (qm rfl) _),lI (qm (by simp)),(((ak wr.heap.size wr).alloc (au _) _).alloc (by simp) _).drew⟩
  case rest =>
   obtain⟨pa,qb,rfl,rfl,ka,kb,hb8⟩:=hcut
   clear q0 q1 q2 q3 q4 q5 q6 q7 q8 q9 q10 p0 p1 p2 p3 p4 p5 p6 p7 p8 p9 p10 HH H1 H2
   have HB8:=ae (hB.trans (hb8.mono hB.size))
   go_upto_region 7 with fail
   have hne:=gI wc
   have xa:=fun(x:dS (jc wc))=>ka.below x.h
   have xb:=fun(x:dS (jc wc))=>kb.below x.h
   have a0:=fun x=>(xa x).cell 0
   have b0:=fun x=>(xb x).cell 0
   have a1:=fun x=>(xa x).cell 1
   have b1:=fun x=>(xb x).cell 1
   have a2:=fun x=>(xa x).cell 2
   have b2:=fun x=>(xb x).cell 2
   have a3:=fun x=>(xa x).cell 3
   have b3:=fun x=>(xb x).cell 3
   have a4:=fun x=>(xa x).cell 4
   have b4:=fun x=>(xb x).cell 4
   have a5:=fun x=>(xa x).cell 5
   have b5:=fun x=>(xb x).cell 5
   have a6:=fun x=>(xa x).cell 6
   have b6:=fun x=>(xb x).cell 6
   have a7:=fun x=>(xa x).cell 7
   have b7:=fun x=>(xb x).cell 7
   have a8:=fun x=>(xa x).cell 8
   have b8:=fun x=>(xb x).cell 8
   have a9:=fun x=>(xa x).cell 9
   have b9:=fun x=>(xb x).cell 9
   have a10:=fun x=>(xa x).cell 10
   have b10:=fun x=>(xb x).cell 10
   simp only [fQ,fP] at a0 a1 a2 a3 a4 a5 a6 a7 a8 a9 a10 b0 b1 b2 b3 b4 b5 b6 b7 b8 b9 b10
   clear xa xb ka kb
   refine KL (jc wc) (fun _=>jc wc) (by kernel_rfl) (by kernel_rfl) (by kernel_rfl) (fun _ _ h=>h) ((ak _ _).drew) ?_
   (try simp only [List.append_eq,List.cons_append,List.nil_append])
   repeat (first
    | (refine kY (by rfl) (fun K hK=>?_);go_big_quiet_step (fail);refine az ?_;refine hK.out _ ?_;clear hK K)
    | (refine kW (by rfl) ?_;simp only [Act.put,dL,dK,dJ]))
   refine nN (.int .i64 y1) (by rfl) (by rfl) (fun w=>by go_simp;exact⟨rfl,rfl⟩) ?_ ?_
   ·intro wx hx
    refine(HH1.out _ (aV HB8.out hx)).mono ?_
    rintro e wy ⟨rfl,hb⟩
    exact⟨rfl,by rw [hb];exact hx⟩
   simp only [Act.put,dL,dK,dJ]
   repeat (first
    | (refine kY (by rfl) (fun K hK=>?_);go_big_quiet_step (fail);refine az ?_;refine hK.out _ ?_;clear hK K)
    | (refine kW (by rfl) ?_;simp only [Act.put,dL,dK,dJ]))
   refine nN (.int .i64 y2) (by rfl) (by rfl) (fun w=>by go_simp;exact⟨rfl,rfl⟩) ?_ ?_
   ·intro wx hx
    refine(HH2.out _ (aV HB8.out hx)).mono ?_
    rintro e wy ⟨rfl,hb⟩
    exact⟨rfl,by rw [hb];exact hx⟩
   simp only [Act.put,dL,dK,dJ]
   repeat (first
    | (refine kY (by rfl) (fun K hK=>?_);go_big_quiet_step (fail);refine az ?_;refine hK.out _ ?_;clear hK K)
    | (refine kW (by rfl) ?_;simp only [Act.put,dL,dK,dJ]))
   refine nN (.int .i64 y3) (by rfl) (by rfl) (fun w=>by go_simp;exact⟨rfl,rfl⟩) ?_ ?_
   ·intro wx hx
    refine(HH3.out _ (aV HB8.out hx)).mono ?_
    rintro e wy ⟨rfl,hb⟩
    exact⟨rfl,by rw [hb];exact hx⟩
   simp only [Act.put,dL,dK,dJ]
   repeat (first
    | (refine kY (by rfl) (fun K hK=>?_);go_big_quiet_step (fail);refine az ?_;refine hK.out _ ?_;clear hK K)
    | (refine kW (by rfl) ?_;simp only [Act.put,dL,dK,dJ]))
   refine nN (.int .i64 y4) (by rfl) (by rfl) (fun w=>by go_simp;exact⟨rfl,rfl⟩) ?_ ?_
   ·intro wx hx
    refine(HH4.out _ (aV HB8.out hx)).mono ?_
    rintro e wy ⟨rfl,hb⟩
    exact⟨rfl,by rw [hb];exact hx⟩
   simp only [Act.put,dL,dK,dJ]
   repeat (first
    | (refine kY (by rfl) (fun K hK=>?_);go_big_quiet_step (fail);refine az ?_;refine hK.out _ ?_;clear hK K)
    | (refine kW (by rfl) ?_;simp only [Act.put,dL,dK,dJ]))
   refine Ku ?_
   intro w9 hb9
   have HB9:=ae (aV HB8.out hb9)
   clear a0 a1 a2 a3 a4 a5 a6 a7 a8 a9 a10 b0 b1 b2 b3 b4 b5 b6 b7 b8 b9 b10 hne hb9
   go_wp2_with fail
   go_ret
   exact⟨rfl,HB9.out⟩
theorem MG {M:List MN}{i:Nat}{m:MN}(hi:lv M i=some m)(hl:M.length≤100000)(nm o:List UInt8)(h:Bool):nI (Ae i nm o h).target∧nI (Ae i nm o h).node∧nI (Ae i nm o h).prev∧nI (Ae i nm o h).next:=by
 have:=kH ⟨m,hi⟩
 exact⟨⟨by show(-100000:Int)≤(i:Int);omega,by show(i:Int)≤100000;omega⟩,⟨by show(-100000:Int)≤-1;omega,by show(-1:Int)≤100000;omega⟩,⟨by show(-100000:Int)≤-1;omega,by show(-1:Int)≤100000;omega⟩,⟨by show(-100000:Int)≤-1;omega,by show(-1:Int)≤100000;omega⟩⟩
theorem um {B:Nat}{w0 w:World}{l:List Ob}{g R Q:Nat}{hv sv fv nv v v2:Value}{S S':Tr}{X:List MX}{M:List MN}{σ : Nat→Nat}{ts rs:List Rc}{Hs:List Int}(hA:All B w0 (rl v ts :: (kK g R Q hv Hs S' sv fv nv X ++ l)) w)(hH:Hs=iZ S σ M)(hl:M.length≤100000)(hts:ts.length≤100)
  (hq:Be M S σ ts rs)(h2:Own w 144 11 v2 rs.length (rows encR rs)) :
  Calls Tryz.prog 50 #[.pointer (some ⟨g,0,none⟩),v,v2] w fun e w'=>∃b,e=.returned (.bool b)∧(ts=rs.map (vC S σ)→b=true)∧Below w.heap.size w w':=by
 have h1:Own w 41 11 v ts.length (rows encR ts):=hA.head
 have hb:=bF hA.tail
 have ho:=lL hA.tail
 have hHl:Hs.length≤100000:=by rw [hH,jJ];exact hl
 cases hq with
 | same h hr =>
  have hcv:=Tz (S:=S) (σ:=σ) hr hl
  refine(Lc hb ho hHl h1 h2 (by rw [h,hH,hcv]) (fun r hr'=>?_) hts).mono ?_
  ·obtain⟨f1,f2,f3,f4⟩:=hr r hr'
   exact⟨(rG (S:=S) (σ:=σ) f1 hl).1,(rG (S:=S) (σ:=σ) f2 hl).1,(rG (S:=S) (σ:=σ) f3 hl).1,(rG (S:=S) (σ:=σ) f4 hl).1⟩
  ·rintro e w' ⟨rfl,hb⟩
   exact⟨true,rfl,fun _=>rfl,hb⟩
 | len h =>
  refine(Og h1 h2 h).mono ?_
  rintro e w' ⟨rfl,hw⟩
  exact⟨false,rfl,fun e=>absurd (by rw [e,bM]) h,by rw [hw];exact ak _ _⟩
 | old i nm o1 o2 b1 b2 ht hr hi hne =>
  obtain⟨m,hi⟩:=hi
  have hok:=Aq hi nm o1 b1 (Ae i nm o1 b1) (by simp)
  have hcv:=Tz (S:=S) (σ:=σ) (Aq hi nm o1 b1) hl
  simp only [fE,jZ,fG,jX] at hcv
  subst ht hr
  have hno:¬([vC S σ (Ae i nm o1 b1)]=[Ae i nm o2 b2].map (vC S σ)):=fun e=>by
   simp only [fE,jZ,fG,jX] at e
   have e1:o1=o2:=bW Rc.old e
   have e2:b1=b2:=bW Rc.had e
   rcases hne with h | h
   ·exact h e1
   ·exact h e2
  have hyz:vC S σ (Ae i nm o1 b1)={ Q4 Hs (Ae i nm o2 b2) with old:=(vC S σ (Ae i nm o1 b1)).old,had:=(vC S σ (Ae i nm o1 b1)).had }:=by rw [← hcv,hH];rfl
  by_cases e1:o1=o2
  ·refine(Jl (l:=[]) (m:=[]) hb ho hHl h1 h2 hyz (MG hi hl _ _ _) ⟨e1,(hne.resolve_left (fun h=>h e1))⟩).mono ?_
   rintro e w' ⟨rfl,hb⟩
   exact⟨false,rfl,fun e=>absurd e hno,hb⟩
  ·refine(Jm (l:=[]) (m:=[]) hb ho hHl h1 h2 hyz (MG hi hl _ _ _) e1).mono ?_
   rintro e w' ⟨rfl,hb⟩
   exact⟨false,rfl,fun e=>absurd e hno,hb⟩
theorem Qv {a b:Rc}(h:encR a=encR b):a=b:=by
 obtain⟨a0,a1,a2,a3,a4,a5,a6,a7,a8,a9,a10⟩:=a
 obtain⟨b0,b1,b2,b3,b4,b5,b6,b7,b8,b9,b10⟩:=b
 simp [encR,recC,dA] at h
 simp [h]
theorem qR:∀{a b:List Rc},a.map encR=b.map encR→a=b
 | [],[],_=>rfl
 | [],_ :: _,h=>by simp at h
 | _ :: _,[],h=>by simp at h
 | x :: a,y :: b,h=>by
  simp only [fE,fG] at h
  rw [Qv h.1,qR h.2]
theorem Ep {R r:Nat}{S S':Tr}{sv fv sv' fv':Value}{w w':World}{cs:List Value}(h:dD w r cs 39)(k:qh R S sv fv w S' sv' fv' w')(hT:fZ 0 R S sv fv w):dD w' r cs 39 :=
 h.kept (k.qU.block r h.lt (fun hf=>by
  rcases hf with e | e | e | ⟨i,n,hi,hne,e⟩
  ·exact dw hT.blk h (by decide) e.symm
  ·obtain⟨cur,hc⟩:=gJ hT.slots e;exact dw hc h (by decide) rfl
  ·obtain⟨cur,hc⟩:=gJ hT.free e;exact dw hc h (by decide) rfl
  ·obtain⟨cur,hc⟩:=JK (hT.attrs i n (dN hi)) hne e;exact dw hc h (by decide) rfl))
section
variable {ex : Prop} {E : Nat → Prop} {c x : Nat} {B : Nat} {w0 w' : World} {l : List Ob} {g R Q : Nat} {hv sv fv nv v : Value} {S S' : Tr} {K : Nat → List Nat} {d : Nat → Nat} {M : List MN} {X' : List MX} {σ : Nat → Nat} {o : ou} {ts rs : List Rc} {Hs : List Int}
theorem yS {n:Nat}{l:List Nat}{i:Nat}(h:i < n):yT n σ l i=σ i:=by unfold yT;rw [aC h]
theorem ku {ls:List (List Value)}{er en:Int}{ok:Bool}(T:CX ex E c x S K d M σ)(hb:Both ex E c S K M σ S' ls er (ms X') rs en)(hA:All B w0 (rl v ts :: (kK g R Q hv Hs S' sv fv nv X' ++ l)) w')(hH:Hs=iZ S σ M)
  (hok:ex→ok=true∧ts=rs.map (vC S σ))(hst:uP M (fun i=>d (σ i)) o (ms X') rs)(hk:o.k % 10≠9):E8 ex E c x B w0 l g R Q S K d M σ o (.returned (.tuple #[v,.bool ok])) w':=by
 obtain⟨K',d',h1,h2,h3,h4⟩:=hb.st
 have hlen:=hb.len
 refine⟨v,ok,S',K',d',X',σ,hv,sv,fv,nv,ts,rs,[],rfl,?_,⟨h1,h2,h4,?_⟩,hok,hb.b,hb.s,h3,hst,⟨fun i m hi=>?_,?_⟩,.inl ⟨hk,rfl⟩⟩
 ·rw [hb.hs,← hH];exact hA
 ·have:=T.lim
  have e:S'.slots.length=S.slots.length:=bW Prod.snd hb.fl
  omega
 ·have:=kH ⟨m,hi⟩
  rw [yS (by omega)]
 ·rw [hlen,jY,hb.fl];simp [EI]
theorem uC {X:List MX}(T:CX ex E c x S K d (ms X) σ)(hA:All B w0 (kK g R Q hv Hs S sv fv nv X ++ l) w')(hH:Hs=iZ S σ (ms X))(hk3:3≤o.k % 10)(hoff:lv (ms X) (o.iA (ms X).length)=none∨(o.k % 10=3∧(lv (ms X) (o.iB (ms X).length)=none∨∃q,o.iC (ms X).length=some q∧lv (ms X) q=none)))(hk:o.k % 10≠9) :
  E8 ex E c x B w0 l g R Q S K d (ms X) σ o (.returned (.tuple #[.slice none 0 0,.bool true])) w' :=
 ku (er:=6) (en:=6) (ls:=[]) T (qV T.ok T.tw T.cl 6) (hA.nil _ _) hH (fun _=>⟨rfl,rfl⟩) (.off hk3 hoff) hk
end
end Go.Proofs.YtfelmdkeaacfeaaGreatDoor.W
end
