/- Texts joined: UnQ UnR Atr Alk Cps. -/
import Derived.Test.YtfelmdkeaacfeaaGreatDoorTU1
set_option maxRecDepth 100000
set_option maxHeartbeats 40000000
set_option linter.unusedVariables false
set_option linter.unusedSimpArgs false
section
namespace Go.Proofs.YtfelmdkeaacfeaaGreatDoor.W
open Go.RowKit
theorem Y9 {M:List MN}{D D':Nat→Nat}{o:ou}{l l':List Nat}(hd:∀i m,lv M i=some m→D' i=D i)(h:Ux M D o l)(h':Ux M D' o l'):l'=l:=by
 rcases h with ⟨hk,rfl⟩ | ⟨hk,⟨h1,rfl⟩ | ⟨⟨ma,ha,h2,h3⟩,rfl⟩⟩
 ·rcases h' with ⟨_,rfl⟩ | ⟨hk',_⟩
  ·rfl
  ·exact absurd hk' hk
 ·rcases h' with ⟨hk',_⟩ | ⟨_,⟨_,rfl⟩ | ⟨⟨ma,ha,h2,h3⟩,_⟩⟩
  ·exact absurd hk hk'
  ·rfl
  ·rcases h1 ma ha with h | h
   ·exact absurd h h2
   ·exact absurd h3 h
 ·rcases h' with ⟨hk',_⟩ | ⟨_,⟨h1,_⟩ | ⟨_,rfl⟩⟩
  ·exact absurd hk hk'
  ·rcases h1 ma ha with h | h
   ·exact absurd h h2
   ·exact absurd h3 h
  ·rw [hd _ ma ha]
theorem YM {M:List MN}{D:Nat→Nat}(hW:MW M D){o:ou}{l:List Nat}(h:Ux M D o l):∀y∈l,∃m,lv M y=some m:=by
 rcases h with ⟨_,rfl⟩ | ⟨_,⟨_,rfl⟩ | ⟨⟨ma,ha,_,_⟩,rfl⟩⟩
 ·intro y hy;cases hy
 ·intro y hy;cases hy
 ·exact hW.qO _ _ ma ha
theorem Y5 {M M':List MN}{p c:Nat}{o:Option Nat}{mc:MN}{rs:List Rc}(h:JX M p c o mc M' rs):M'.length=M.length∧∀i,(lv M' i).isSome=(lv M i).isSome:=by
 cases h with
 | det mp j h1 h2 h3=>exact⟨by unfold oU;rw [gQ],vT⟩
 | sF q i j mq mp o' h1 h2 h3 h4 h5 h6=>exact⟨by unfold oU uH;rw [gQ,gQ],fun i=>by rw [vT,xJ]⟩
theorem Y8 {M M':List MN}{D:Nat→Nat}{p c:Nat}{o:Option Nat}{mp mc:MN}{rs:List Rc}{en:Int}(h:zX M D p c o mp mc M' rs en):M'.length=M.length∧∀i,(lv M' i).isSome=(lv M i).isSome:=by
 cases h with
 | no _=>exact⟨rfl,fun _=>rfl⟩
 | other _ _ _ _ _ _=>exact⟨rfl,fun _=>rfl⟩
 | far _ _ _=>exact⟨rfl,fun _=>rfl⟩
 | ok _ _ _ _ _ hm=>exact Y5 hm
theorem YA {M M':List MN}{D:Nat→Nat}{o:ou}{rs:List Rc}(h:uP M D o M' rs)(h3:3≤o.k % 10)(h7:o.k % 10≤7):M'.length=M.length∧∀i,(lv M' i).isSome=(lv M i).isSome:=by
 cases h with
 | make _ _ hk _=>omega
 | off _ _=>exact⟨rfl,fun _=>rfl⟩
 | ins _ _ _ _ _ _ _ _ _ hm=>exact Y8 hm
 | rem ma _ _ _ hk ha hm =>
  cases hm with
  | doc _=>exact⟨rfl,fun _=>rfl⟩
  | top _ _=>exact⟨rfl,fun _=>rfl⟩
  | cut q i mq _ _ _ _=>exact⟨by unfold uH;rw [gQ],xJ⟩
 | Rk ma _ _ _ hk ha hm =>
  have hg:=(lV ha).2
  cases hm with
  | kind _=>exact⟨rfl,fun _=>rfl⟩
  | arg _ _=>exact⟨rfl,fun _=>rfl⟩
  | add _ _ _=>exact⟨by simp,EL ha hg⟩
  | set k y _ _ _ _=>exact⟨by simp,EL ha hg⟩
 | Sl ma _ _ _ hk ha hm =>
  have hg:=(lV ha).2
  cases hm with
  | kind _=>exact⟨rfl,fun _=>rfl⟩
  | no _ _=>exact⟨rfl,fun _=>rfl⟩
  | cut k y _ _ _=>exact⟨by simp,EL ha hg⟩
 | rep ma _ _ _ hk ha hm =>
  have hg:=(lV ha).2
  cases hm with
  | kind _=>exact⟨rfl,fun _=>rfl⟩
  | rng _ _=>exact⟨rfl,fun _=>rfl⟩
  | yes _ _ _ _=>exact⟨by simp,EL ha hg⟩
 | cpy _ _ _ hk _ _=>omega
 | dro _ _ _ hk _ _=>omega
theorem YU {M M':List MN}{D:Nat→Nat}{o:ou}{rs:List Rc}(h:uP M D o M' rs){i:Nat}{m':MN}(hi:i < M.length)(hl:lv M' i=some m'):∃m,lv M i=some m:=by
 by_cases hk:3≤o.k % 10∧o.k % 10≤7
 ·have:=(YA h hk.1 hk.2).2 i
  rw [hl] at this
  exact aB.1 this.symm
 ·cases h with
  | make _ _ _ hm =>
   cases hm with
   | arg _ _=>exact⟨m',hl⟩
   | el _ _=>rw [x9 hi] at hl;exact⟨m',hl⟩
   | tx _=>rw [x9 hi] at hl;exact⟨m',hl⟩
  | off _ _=>exact⟨m',hl⟩
  | cpy _ _ _ _ _ hm =>
   cases hm with
   | doc _=>exact⟨m',hl⟩
   | deep _ _=>rw [x9 hi] at hl;exact⟨m',hl⟩
   | flat _ _=>rw [x9 hi] at hl;exact⟨m',hl⟩
  | dro _ _ _ _ _ hm =>
   cases hm with
   | no _=>exact⟨m',hl⟩
   | yes _ _ =>
    rw [DY] at hl
    split at hl
    ·cases hl
    ·exact⟨m',hl⟩
  | ins _ _ _ _ _ hk' _ _ _ _=>omega
  | rem _ _ _ _ hk' _ _=>omega
  | Rk _ _ _ _ hk' _ _=>omega
  | Sl _ _ _ _ hk' _ _=>omega
  | rep _ _ _ _ hk' _ _=>omega
structure YB (S S2:Tr) (M:List MN) (σ σ2:Nat→Nat):Prop where
 b:S2.b=S.b
 s:S2.s=S.s
 fl:S2.fl=S.fl
 sg:∀i m,lv M i=some m→σ2 i=σ i
theorem YB.step {S S2 S' S2':Tr}{M M':List MN}{D D2:Nat→Nat}{σ σ2 σ' σ2':Nat→Nat}{o:ou}{rs:List Rc}{dl dl2:List Nat}(h:YB S S2 M σ σ2)(hW:MW M D)(hW2:MW M D2)(hst:uP M D o M' rs)(hf:UQ M M' σ S.fl dl σ' S'.fl)(hf2:UQ M M' σ2 S2.fl dl2 σ2' S2'.fl)(hd:Ux M D o dl)(hd2:Ux M D2 o dl2)
  (hb:S'.b=S.b)(hs:S'.s=S.s)(hb2:S2'.b=S2.b)(hs2:S2'.s=S2.s):YB S' S2' M' σ' σ2':=by
 have hDD:∀i m,lv M i=some m→D2 i=D i:=fun i m hi=>MW.uniq hW hW2 (D i) i m rfl hi
 have hdl:=Y9 hDD hd hd2
 subst hdl
 have hmap:dl2.map σ2=dl2.map σ:=fM fun y hy=>by
  obtain⟨m,hm⟩:=YM hW hd y hy
  exact h.sg y m hm
 refine⟨hb2.trans (h.b.trans hb.symm),hs2.trans (h.s.trans hs.symm),?_,fun i m hi=>?_⟩
 ·rw [hf2.2,hf.2,h.fl,hmap]
 ·rw [hf.1 i m hi,hf2.1 i m hi,h.fl]
  unfold yT
  split
  ·rename_i hlt
   obtain⟨m0,h0⟩:=YU hst hlt hi
   exact h.sg i m0 h0
  ·rfl
theorem Tw.congr {ex:Prop}{E:Nat→Prop}{c:Nat}{S:Tr}{K:Nat→List Nat}{M:List MN}{σ σ':Nat→Nat}(W:Tw ex E c S K M σ)(h:∀i m,lv M i=some m→σ' i=σ i):Tw ex E c S K M σ':=by
 obtain⟨hz,m0,hm0⟩:=W.zero
 refine⟨fun i m hi=>by rw [h i m hi];exact W.node i m hi,fun i m hi=>?_,fun i j mi mj hi hj e=>?_,⟨by rw [h 0 m0 hm0];exact hz,m0,hm0⟩,W.par,W.kid,fun i m hi hp=>by rw [h i m hi];exact W.top i m hi hp,fun x hx=>?_,fun i m hi=>by rw [h i m hi];exact W.off i m hi,W.ma,W.few⟩
 ·rw [h i m hi,W.kids i m hi]
  refine fM fun k hk=>?_
  obtain⟨mk,h1,_⟩:=W.kid i m k hi hk
  exact(h k mk h1).symm
 ·rw [h i mi hi,h j mj hj] at e
  exact W.inj i j mi mj hi hj e
 ·rcases W.cover x hx with e | ⟨i,m,hi,e⟩
  ·exact .inl e
  ·exact .inr ⟨i,m,hi,(h i m hi).trans e⟩
/-! ### the calls -/
section
variable {B : Nat} {w0 w : World} {l : List Ob} {g R Q c : Nat} {hv sv fv nv : Value} {Hs : List Int} {S : Tr} {K : Nat → List Nat} {d : Nat → Nat} {M : List MN} {X : List MX} {σ : Nat → Nat}
def YJ (B:Nat)(w0:World)(l:List Ob)(g R Q c:Nat)(hv nv:Value)(Hs:List Int)(S:Tr)(X:List MX)(M':List MN)(σ : Nat→Nat)(e:Ending)(w':World):Prop :=
 ∃S' sv' fv' K' d' v er,e=.returned (.tuple #[v,.int .i64 er])∧All B w0 (kK g R Q hv Hs S' sv' fv' nv X ++ l) w'∧iP c S' K' d'∧Tw True (fun _=>False) c S' K' M' σ∧S'.b=S.b∧S'.s=S.s
theorem Zn (h:All B w0 (kK g R Q hv Hs S sv fv nv X ++ l) w)(T:iP c S K d)(W:Tw True (fun _=>False) c S K M σ){p i j:Nat}{mp mi:MN}(hi:lv M i=some mi)(h0:i≠0)(hp:mi.par=some p)(hq:lv M p=some mp)(hj:mp.kids[j]? = some i) :
  Calls Tryz.prog 15 #[.pointer (some ⟨R,0,none⟩),.int .i64 (S.hd (σ i))] w (YJ B w0 l g R Q (c+1) hv nv Hs S X (uH M p j i) σ):=by
 obtain⟨n,hn,_⟩:=W.node i mi hi
 refine(Pg (jF h) T.lk (σ i) n hn).mono ?_
 rintro e w' ⟨S',sv',fv',v,ls,er,hr,rfl,_,hTo,_⟩
 have hb:=QM T W (fun _ _ _=>Iff.rfl) hi hn hr (.cut p j mp h0 hp hq hj)
 obtain⟨K',d',T',W',_,_⟩:=hb.st
 exact⟨S',sv',fv',K',d',v,er,rfl,hTo.all h,T',W',hb.b,hb.s⟩
theorem Zm (h:All B w0 (kK g R Q hv Hs S sv fv nv X ++ l) w)(T:iP c S K d){M0:List MN}{q i j:Nat}{mq mi:MN}(W:Tw True (fun _=>False) c S K (uH M0 q j i) σ){D:Nat→Nat}(hW:MW M0 D)(hi:lv M0 i=some mi)(h0:i≠0)(hp:mi.par=some q)(hq:lv M0 q=some mq)(hj:mq.kids[j]? = some i)(hmay:zt M0 D q i mq mi=true) :
  Calls Tryz.prog 16 #[.pointer (some ⟨R,0,none⟩),.int .i64 (S.hd (σ q)),.int .i64 (S.hd (σ i)),.int .i64 (hO S (mq.kids[j+1]?.map σ))] w (YJ B w0 l g R Q (c+1) hv nv Hs S X M0 σ):=by
 obtain⟨mq',mi',rs,hq',hi',hob,hm⟩:=Zb hW (W.mw T.lk) hi h0 hp hq hj hmay
 obtain⟨n,hn,_⟩:=W.node i mi' hi'
 obtain⟨np,hnp,_⟩:=W.node q mq' hq'
 refine(II (jF h) T.lk (σ q) (σ i) (mq.kids[j+1]?.map σ) np n hnp hn (fun b hb=>?_)).mono ?_
 ·obtain⟨b',hb',rfl⟩:=bJ.1 hb
  obtain⟨mb,hmb⟩:=hob b' hb'
  obtain⟨nb,hnb,_⟩:=W.node b' mb hmb
  rw [hnb];rfl
 ·rintro e w' ⟨S',sv',fv',v,ls,er,hr,rfl,_,hTo,_⟩
  have hb:=JJ T W (fun _ _ _=>Iff.rfl) hq' hi' hnp hn hob hr hm
  obtain⟨K',d',T',W',_,_⟩:=hb.st
  exact⟨S',sv',fv',K',d',v,er,rfl,hTo.all h,T',W',hb.b,hb.s⟩
theorem Y2 (h:All B w0 (kK g R Q hv Hs S sv fv nv X ++ l) w)(T:iP c S K d)(W:Tw True (fun _=>False) c S K M σ){i:Nat}{m:MN}{name:List UInt8}{M':List MN}{rs:List Rc}{en:Int}(hi:lv M i=some m)(hm:Ci M i m name M' rs en) :
  Calls Tryz.prog 17 #[.pointer (some ⟨R,0,none⟩),.int .i64 (S.hd (σ i)),dA name] w (YJ B w0 l g R Q (c+1) hv nv Hs S X M' σ):=by
 obtain⟨n,hn,_⟩:=W.node i m hi
 refine(Pj (jF h) T.lk (σ i) n hn (T.nd _ n hn).al name).mono ?_
 rintro e w' ⟨S',sv',fv',v,ls,er,hr,rfl,_,hTo,_⟩
 have hb:=QN T W (fun _ _ _=>Iff.rfl) hi hn hr hm
 obtain⟨K',d',T',W',_,_⟩:=hb.st
 exact⟨S',sv',fv',K',d',v,er,rfl,hTo.all h,T',W',hb.b,hb.s⟩
theorem Zl (h:All B w0 (kK g R Q hv Hs S sv fv nv X ++ l) w)(hLd:Laid w)(T:iP c S K d)(W:Tw True (fun _=>False) c S K M σ){i:Nat}{m:MN}{name val:List UInt8}(hi:lv M i=some m)(hk:m.kind=2)(hh:headB name=true)(hv1:Lib.validD val=true)(hn2:name.length≤200)(hv2:val.length≤200)(hno:mJ m.attrs name=-1)(hl:m.attrs.length+1≤c+2)(hl2:m.attrs.length < 64) :
  Calls Tryz.prog 18 #[.pointer (some ⟨R,0,none⟩),.int .i64 (S.hd (σ i)),dA name,dA val] w (YJ B w0 l g R Q c hv nv Hs S X (M.set i { m with attrs:=m.attrs ++ [(name,val)] }) σ):=by
 obtain⟨n,hn,hkd,hnm,hdt,hat⟩:=W.node i m hi
 have hat:=hat trivial
 have hok:=T.nd _ n hn
 refine(O8 (jF h) T.lk (σ i) n hn hok.al name val (by omega) (by omega) hLd).mono ?_
 rintro e w' ⟨S',sv',fv',v,ls,er,⟨W0,v',ht⟩,rfl,_,hTo,_⟩
 have hfx:fix val=val:=by unfold fix;rw [aC hv1]
 cases ht with
 | kind h1=>exact absurd (hkd.trans hk) h1
 | arg _ h1=>rw [hh] at h1;cases h1
 | full _ _ _ h2=>rw [hat] at h2;omega
 | set v' av k y _ _ h1 _ _=>rw [hat,hno] at h1;omega
 | add v' av h1 _ h2 h3 hfr =>
  rw [hfx] at hTo
  refine⟨_,sv',fv',K,d,v,0,rfl,hTo.all h,T.put hn rfl rfl rfl rfl rfl rfl (hok.attrs h1 av _ (fun a ha=>?_) ?_ (by simp;omega)),W.put hi hn hkd hnm hdt (fun _=>by rw [hat]) rfl rfl (lV hi).2 (by simp;omega),rfl,rfl⟩
  ·rcases cZ.1 ha with ha | ha
   ·exact hok.at_ a ha
   ·rw [eF] at ha;subst ha;exact⟨hh,hv1,hn2,hv2⟩
  ·rw [ig,jf]
   refine⟨hok.nd,by simp,fun a ha b hb e=>?_⟩
   simp at hb
   subst hb e
   exact Jg h2 ha
theorem Ze {data s:List UInt8}(hv:ik data=data)(hs:ik s=s)(hl:data.length≤1048576):Ap data 0 1048576 s=s:=by
 have h1:=PN data.length data (au _)
 rw [MF hv (by omega) (by omega) (by omega)]
 unfold xH
 rw [hs,show(0+min (1048576:Int) (((iF data).length:Int) - 0)).toNat=(iF data).length by omega]
 simp [joinL]
theorem Zo (h:All B w0 (kK g R Q hv Hs S sv fv nv X ++ l) w)(hLd:Laid w)(T:iP c S K d)(W:Tw True (fun _=>False) c S K M σ)(hc:c≤300){i:Nat}{m:MN}{old:List UInt8}(hi:lv M i=some m)(hk:3≤m.kind)(hvo:Lib.validD old=true)(hlo:old.length≤200*(c+1)) :
  Calls Tryz.prog 19 #[.pointer (some ⟨R,0,none⟩),.int .i64 (S.hd (σ i)),.int .i64 0,.int .i64 1048576,dA old] w (YJ B w0 l g R Q c hv nv Hs S X (M.set i { m with data:=old }) σ):=by
 obtain⟨n,hn,hkd,hnm,hdt,hat⟩:=W.node i m hi
 have hok:=T.nd _ n hn
 have hdl:=hok.dl
 have hk34:n.kind=3∨n.kind=4:=by have:=hok.kd;omega
 refine(O9 (jF h) T.lk (σ i) n hn hok.kd (by omega) 0 1048576 (by omega) (by omega) (by omega) (by omega) old (by omega) hLd).mono ?_
 rintro e w' ⟨S',sv',fv',v,ls,er,⟨v',ht⟩,rfl,_,hTo,_⟩
 have hvd:ik n.data=n.data:=(vH _).1 (hok.tx hk34).2.2
 have hr:=Ze hvd ((vH _).1 hvo) (by omega)
 cases ht with
 | kind h1=>omega
 | rng _ h1=>omega
 | long _ h1=>rw [hr] at h1;omega
 | yes v' _ _ _ _ =>
  rw [hr] at hTo
  refine⟨_,sv',fv',K,d,v,0,rfl,hTo.all h,T.put hn rfl rfl rfl rfl rfl rfl ?_,W.put hi hn hkd hnm rfl hat rfl rfl (lV hi).2 (W.ma i m hi),rfl,rfl⟩
  exact⟨hok.kd,fun e2=>(by have e2:n.kind=2:=e2;omega),fun e2=>⟨(hok.tx hk34).1,(hok.tx hk34).2.1,hvo⟩,fun e2=>(by have e2:n.kind=1:=e2;omega),hok.at_,hok.nd,hok.al,hlo,hok.nl⟩
end
/-! ### the last record, and what its undoing needs -/
inductive Zq (M0:List MN) (L:List Rc):Rc→List MN→Prop
 | ins (Mg:List MN) (p c j:Nat) (a b:Int) (mp mc:MN) (hc:lv Mg c=some mc) (h0:c≠0) (hp:mc.par=some p) (hq:lv Mg p=some mp) (hj:mp.kids[j]? = some c) (h:Bk M0 L (uH Mg p j c)):Zq M0 L (Ti p c a b j) Mg
 | rem (q c i:Nat) (a:Int) (mq mc:MN) (hL:L=[]) (hc:lv M0 c=some mc) (h0:c≠0) (hp:mc.par=some q) (hq:lv M0 q=some mq) (hi:mq.kids[i]? = some c):Zq M0 L (Ub q c a (pI mq.kids[i+1]?) i) (uH M0 q i c)
 | new (h:Nat) (mh:MN) (name val:List UInt8) (hL:L=[]) (hh:lv M0 h=some mh) (hk:mh.kind=2) (h1:mJ mh.attrs name=-1):Zq M0 L (Ae h name [] false) (M0.set h { mh with attrs:=mh.attrs ++ [(name,val)] })
 | old (h k:Nat) (mh:MN) (y:jR) (al:List jR) (hL:L=[]) (hh:lv M0 h=some mh) (hk:mh.kind=2) (hy:mh.attrs[k]? = some y) (ha:al=mh.attrs.eraseIdx k∨∃v,al=mh.attrs.set k (y.1,v)):Zq M0 L (Ae h y.1 y.2 true) (M0.set h { mh with attrs:=al })
 | data (h:Nat) (mh:MN) (dt:List UInt8) (ix cnt sz:Int) (hL:L=[]) (hh:lv M0 h=some mh) (hk:3≤mh.kind):Zq M0 L ⟨4,h,-1,-1,-1,ix,[],mh.data,false,cnt,sz⟩ (M0.set h { mh with data:=dt })
theorem Bk.last {M0 Mg:List MN}{L L':List Rc}{r:Rc}(h:Bk M0 L Mg)(e:L=L' ++ [r]):Zq M0 L' r Mg:=by
 have one:∀x:Rc,[x]=L' ++ [r]→L'=[]∧r=x:=fun x hx=>by
  obtain⟨h1,h2⟩:=List.append_inj' (s₁:=[]) (t₁:=[x]) hx rfl
  exact⟨h1.symm,by cases h2;rfl⟩
 cases h with
 | done _ _=>cases L' <;> cases e
 | ins rs _ p c j a b mp mc hc h0 hp hq hj h =>
  obtain⟨h1,h2⟩:=List.append_inj' e rfl
  cases h2;subst h1
  exact .ins Mg p c j a b mp mc hc h0 hp hq hj h
 | rem q c i a mq mc hc h0 hp hq hi=>obtain⟨h1,rfl⟩:=one _ e;exact .rem q c i a mq mc h1 hc h0 hp hq hi
 | new h mh name val hh hk h1=>obtain⟨h2,rfl⟩:=one _ e;exact .new h mh name val h2 hh hk h1
 | old h k mh y al hh hk hy ha=>obtain⟨h2,rfl⟩:=one _ e;exact .old h k mh y al h2 hh hk hy ha
 | data h mh dt ix cnt sz hh hk=>obtain⟨h2,rfl⟩:=one _ e;exact .data h mh dt ix cnt sz h2 hh hk
theorem YT {M M':List MN}{D:Nat→Nat}{o:ou}{rs:List Rc}(h:uP M D o M' rs):rs.length≤2:=by
 cases h with
 | make _ _ _ _=>simp
 | off _ _=>simp
 | ins _ _ _ _ _ _ _ _ _ hm =>
  cases hm with
  | no _=>simp
  | other _ _ _ _ _ _=>simp
  | far _ _ _=>simp
  | ok _ _ _ _ _ hm=>cases hm <;> simp
 | rem _ _ _ _ _ _ hm=>cases hm <;> simp
 | Rk _ _ _ _ _ _ hm=>cases hm <;> simp
 | Sl _ _ _ _ _ _ hm=>cases hm <;> simp
 | rep _ _ _ _ _ _ hm=>cases hm <;> simp
 | cpy _ _ _ _ _ _=>simp
 | dro _ _ _ _ _ _=>simp
structure Ym (g R Q r:Nat) (hv:Value) (cs:List Value) (w:World):Prop where
 bk:dD w g [.pointer (some ⟨R,0,none⟩),.pointer (some ⟨Q,0,none⟩),hv] 33
 rk:dD w r cs 41
section
variable {B : Nat} {w0 w : World} {l : List Ob} {g R Q r c : Nat} {hv sv fv nv : Value} {cs : List Value} {Hs : List Int} {S : Tr} {K : Nat → List Nat} {d : Nat → Nat} {M : List MN} {X : List MX} {σ : Nat → Nat}
theorem Yt (hA:All B w0 (kK g R Q hv Hs S sv fv nv X ++ (bk r cs 41 :: l)) w):Ym g R Q r hv cs w:=⟨bF hA,hA.P (bk r cs 41) (by simp)⟩
theorem YE (hA:All B w0 (kK g R Q hv Hs S sv fv nv X ++ (bk r cs 41 :: l)) w)(w':World)(h:jc w w'):Ym g R Q r hv cs w':=Yt (hA.still h)
theorem YD (v:Value)(w':World)(h:YJ B w0 (bk r cs 41 :: l) g R Q c hv nv Hs S X M σ (.returned v) w'):Ym g R Q r hv cs w':=by
 obtain⟨S',sv',fv',K',d',v0,er,e,hA,_⟩:=h
 exact Yt hA
theorem Yn (v:Value)(w1 w2:World)(h:YJ B w0 l g R Q c hv nv Hs S X M σ (.returned v) w1)(hb:Below w1.heap.size w1 w2):YJ B w0 l g R Q c hv nv Hs S X M σ (.returned v) w2:=by
 obtain⟨S',sv',fv',K',d',v0,er,e,hA,h1,h2,h3,h4⟩:=h
 exact⟨S',sv',fv',K',d',v0,er,e,hA.still hb,h1,h2,h3,h4⟩
theorem Yr {e:Ending}(h:YJ B w0 l g R Q c hv nv Hs S X M σ e w):∃v,e=.returned v∧(∃v0 er,v=.tuple #[v0,.int .i64 er])∧YJ B w0 l g R Q c hv nv Hs S X M σ (.returned v) w:=by
 obtain⟨S',sv',fv',K',d',v0,er,rfl,h⟩:=h
 exact⟨_,rfl,⟨v0,er,rfl⟩,S',sv',fv',K',d',v0,er,rfl,h⟩
end
end Go.Proofs.YtfelmdkeaacfeaaGreatDoor.W
end
section
namespace Go.Proofs.YtfelmdkeaacfeaaGreatDoor.W
open Go.RowKit
theorem Zh {c x:Nat}{S:Tr}{K:Nat→List Nat}{d:Nat→Nat}{M:List MN}{σ : Nat→Nat}(T:CX True (fun _=>False) c x S K d M σ){q i:Nat}{mq mi:MN}(hi:lv M i=some mi)(hp:mi.par=some q)(hq:lv M q=some mq):zt M (fun i=>d (σ i)) q i mq mi=true:=by
 obtain⟨n,hn,_⟩:=T.tw.node i mi hi
 obtain⟨nq,hnq,_⟩:=T.tw.node q mq hq
 rw [← T.tw.may T.ok hq hi hnq hn]
 exact T.ok.may ((RN T.tw hq hi).2 hp) hnq hn
theorem Yv {M:List MN}{h:Nat}{mh m':MN}(hh:lv M h=some mh)(hg:m'.gone=false):lv (M.set h m') h=some m':=by
 have hl:=(ai.1 (lV hh).1).1
 exact DX (by rw [dH,aC rfl,aC hl]) hg
theorem Yo {M:List MN}(h:Nat)(a b:MN):(M.set h a).set h b=M.set h b:=List.set_set ..
theorem Y7 {M:List MN}{h:Nat}{mh:MN}(hh:lv M h=some mh){name val:List UInt8}(hk:mh.kind=2)(h1:mJ mh.attrs name=-1) :
  ∃rs en,Ci (M.set h { mh with attrs:=mh.attrs ++ [(name,val)] }) h { mh with attrs:=mh.attrs ++ [(name,val)] } name M rs en:=by
 have key:=Ci.cut (M:=M.set h { mh with attrs:=mh.attrs ++ [(name,val)] }) (h:=h) (mh:={ mh with attrs:=mh.attrs ++ [(name,val)] }) (name:=name) mh.attrs.length (name,val) hk (Zp h1) (by simp)
 have e:(mh.attrs ++ [(name,val)]).eraseIdx mh.attrs.length=mh.attrs:=by
  rw [List.eraseIdx_append_of_length_le (au _),jY,List.eraseIdx_cons_zero,aT]
 rw [Yo,e] at key
 have e2:M.set h { mh with attrs:=mh.attrs }=M:=set_self hh
 rw [e2] at key
 exact⟨_,_,key⟩
theorem Y6 {M:List MN}{h k:Nat}{mh:MN}(hh:lv M h=some mh){y:jR}{al:List jR}(hk:mh.kind=2)(hnd:(mh.attrs.map (·.1)).Nodup)(hy:mh.attrs[k]? = some y)(ha:al=mh.attrs.eraseIdx k∨∃v,al=mh.attrs.set k (y.1,v)) :
  ∃rs en,Ci (M.set h { mh with attrs:=al }) h { mh with attrs:=al } y.1 (M.set h { mh with attrs:=mh.attrs.eraseIdx k }) rs en:=by
 rcases ha with rfl | ⟨v,rfl⟩
 ·exact⟨_,_,Ci.no hk (YI hnd hy)⟩
 ·have hl:=(ai.1 hy).1
  have hg:(mh.attrs.set k (y.1,v))[k]? = some (y.1,v):=by rw [dH,aC rfl,aC hl]
  have hn:mJ (mh.attrs.set k (y.1,v)) y.1=(k:Int):=Zk (y:=(y.1,v)) (by rw [zu hy];exact hnd) hg
  have key:=Ci.cut (M:=M.set h { mh with attrs:=mh.attrs.set k (y.1,v) }) (h:=h) (mh:={ mh with attrs:=mh.attrs.set k (y.1,v) }) (name:=y.1) k (y.1,v) hk hn hg
  rw [Yo,YR] at key
  exact⟨_,_,key⟩
theorem Y0 {c x:Nat}{S:Tr}{K:Nat→List Nat}{d:Nat→Nat}{M:List MN}{σ : Nat→Nat}(T:CX True (fun _=>False) c x S K d M σ){h k:Nat}{mh:MN}(hh:lv M h=some mh){y:jR}(hy:mh.attrs[k]? = some y) :
  (mh.attrs.map (·.1)).Nodup∧headB y.1=true∧Lib.validD y.2=true∧y.1.length≤200∧y.2.length≤200∧mh.attrs.length≤c+2:=by
 obtain⟨n,hn,_,_,_,hat⟩:=T.tw.node h mh hh
 have hat:=hat trivial
 have hok:=T.ok.nd _ n hn
 have h1:=hok.at_ y (by rw [hat];exact ah hy)
 exact⟨by rw [← hat];exact hok.nd,h1.1,h1.2.1,h1.2.2.1,h1.2.2.2,T.tw.ma h mh hh⟩
theorem YZ {c x:Nat}{S:Tr}{K:Nat→List Nat}{d:Nat→Nat}{M:List MN}{σ : Nat→Nat}(T:CX True (fun _=>False) c x S K d M σ){h:Nat}{mh:MN}(hh:lv M h=some mh)(hk:3≤mh.kind):Lib.validD mh.data=true∧mh.data.length≤200*(c+1):=by
 obtain⟨n,hn,hkd,_,hdt,_⟩:=T.tw.node h mh hh
 have hok:=T.ok.nd _ n hn
 rw [← hdt]
 exact⟨(hok.tx (by have:=hok.kd;omega)).2.2,hok.dl⟩
theorem Bk.nil {M0 Mg:List MN}{L:List Rc}(h:Bk M0 L Mg)(e:L=[]):Yp M0 Mg:=by
 cases h with
 | done _ h=>exact h
 | ins _ _ _ _ _ _ _ _ _ _ _ _ _ _ _=>simp at e
 | rem _ _ _ _ _ _ _ _ _ _ _=>cases e
 | new _ _ _ _ _ _ _=>cases e
 | old _ _ _ _ _ _ _ _ _=>cases e
 | data _ _ _ _ _ _ _ _=>cases e
theorem Y1 {i c5:Nat}{S S2 S5:Tr}{K2 K5:Nat→List Nat}{d2 d5:Nat→Nat}{M Mg:List MN}{σ σ2:Nat→Nat}(T2:CX True (fun _=>False) i 0 S2 K2 d2 M σ2)(hT5:iP c5 S5 K5 d5)(hW5:Tw True (fun _=>False) c5 S5 K5 Mg σ)(hL:Yp M Mg)(hm:YB S S2 M σ σ2)(hb:S5.b=S.b)(hs:S5.s=S.s){j:Nat}{m:MN}(hj:lv M j=some m) :
  ∃n n2,S2.at (σ2 j)=some n∧S5.at (σ2 j)=some n2∧S5.hd (σ2 j)=S2.hd (σ2 j)∧n2.kind=n.kind∧n2.data=n.data∧(n2.parent=n.parent∧n2.first=n.first∧n2.last=n.last∧n2.prev=n.prev∧n2.next=n.next)∧n2.attrs.Perm n.attrs∧(n2.attrs.map (·.1)).Nodup∧(n2.attrs≠[]→n2.kind=2)∧n.attrs.length≤1000:=by
 have T5:CX True (fun _=>False) c5 S5.slots.length S5 K5 d5 Mg σ:=⟨hT5,hW5,fun _ _ _=>Iff.rfl,by omega⟩
 obtain⟨n,n2,h1,h2,h3,h4,h5,h6⟩:=Zd T2 T5 hL (fun i m h=>(hm.sg i m h).symm) (hb.trans hm.b.symm) (hs.trans hm.s.symm) hj
 have k2:=hT5.nd _ n2 h2
 have k1:=T2.ok.nd _ n h1
 refine⟨n,n2,h1,h2,by unfold Tr.hd;rw [hb.trans hm.b.symm,hs.trans hm.s.symm],h3,h4,h5,h6,k2.nd,fun e=>?_,by have:=k1.al;omega⟩
 rcases k2.kd with h | h | h | h
 ·exact absurd (k2.dc h).2.2 e
 ·exact h
 ·exact absurd (k2.tx (.inl h)).2.1 e
 ·exact absurd (k2.tx (.inr h)).2.1 e
end Go.Proofs.YtfelmdkeaacfeaaGreatDoor.W
end
section
namespace Go.Proofs.YtfelmdkeaacfeaaGreatDoor.W
open Go.RowKit
theorem Zj {B R g cap:Nat}{S:Tr}{fv:Value}{w:World}{K d}(h:fZ B R S (.slice (some ⟨g,0,none⟩) S.slots.length cap) fv w)(hL:Lk S K d)(i:Nat)(n:Nd)(hi:S.at i=some n)(hk:n.kind=2)(hl:n.attrs.length≤1000)(x:List UInt8) :
  Calls Tryz.prog 67 #[.pointer (some ⟨R,0,none⟩),.int .i64 (S.hd i),.string ⟨x.toArray⟩] w fun e w'=>Below w.heap.size w w' ∧
   ((mJ n.attrs x=-1∧e=.returned (.tuple #[.string ⟨#[]⟩,.bool false]))∨∃(k:Nat) (y:jR),mJ n.attrs x=(k:Int)∧n.attrs[k]? = some y∧e=.returned (.tuple #[.string ⟨y.2.toArray⟩,.bool true])):=by
 have HE:=ae (Ei h hL i n hi hk)
 have HN:=ae (fun wx (hb:Below w.heap.size w wx)=>FQ (h.below hb) i n hi x hl)
 have hAt:=h.attrs i n (dN hi)
 obtain⟨nk,nn,nav,nal,nda,np,nf,nl,npv,nx⟩:=n
 obtain⟨av,acap,hav,hcs⟩:=hAt
 simp only [] at hav hcs hl
 subst hav
 have HS:=ae (fun wx (hb:Below w.heap.size w wx)=>(show wx.cell? ⟨g,i*10+3,none⟩=some (.slice av nal.length acap) from dm (h.below hb) (dN hi) 3 (by omega)))
 have HCs:=ae hcs
 clear h hi hcs
 simp only [dA] at HN
 go_enter Tryz.func67,Tryz.ntmps67
 go_wp2_with fail
 refine HE.out.mono ?_
 rintro e w2 ⟨rfl,hb2⟩
 go_wp2_with fail
 refine(HN.out w2 hb2).mono ?_
 rintro e w3 ⟨rfl,hb3⟩
 have HB3:=ae (aV hb2 hb3)
 clear hb2 hb3
 by_cases hneg:mJ nal x=-1
 ·have HNg:=ae hneg
  rw [hneg]
  clear hneg
  go_wp2_with fail
  go_ret2
  exact⟨HB3.out,.inl ⟨HNg.out,rfl⟩⟩
 ·obtain⟨k,y,hk1,hk2⟩:∃(k:Nat) (y:jR),mJ nal x=(k:Int)∧nal[k]? = some y:=by
   unfold mJ at hneg ⊢
   cases e:nal.findIdx? (fun y=>y.1 == x) with
   | none=>rw [e] at hneg;exact absurd rfl hneg
   | some k =>
    obtain⟨hlt,_⟩:=rW.1 e
    exact⟨k,_,rfl,ay hlt⟩
  have HK1:=ae hk1
  rw [hk1]
  clear hk1
  rcases HCs.out with rfl | ⟨vg,cur,rfl,_,hg,hc⟩
  ·cases hk2
  have hgl:=gp hg
  have c3:=HS.out w3 HB3.out
  have cv:w3.cell? ⟨vg,k*2+1,none⟩=some (.string ⟨y.2.toArray⟩):=by
   rw [HB3.out.cell (p:=⟨vg,k*2+1,none⟩) hgl,show k*2+1=2*k+1 by omega,iQ hg]
   exact(hc k y hk2).2
  have hkl:=(ai.1 hk2).1
  have hki:(k:Int) < (nal.length:Int):=by omega
  have HK:=ae hk2
  have hg3:=aO hgl HB3.out.size
  clear hg hc hk2 hneg
  unfold na
  go_wp2_with fail
  go_ret2
  exact⟨HB3.out,.inr ⟨k,y,HK1.out,HK.out,rfl⟩⟩
end Go.Proofs.YtfelmdkeaacfeaaGreatDoor.W
end
section
namespace Go.Proofs.YtfelmdkeaacfeaaGreatDoor.W
open Go.RowKit
def Zt (w:World)(n:Nat)(iv sv tv:Value)(wr:World):Prop:=∃i:Nat,i≤n∧iv=.int .i64 (i:Int)∧Below w.heap.size w wr
theorem Y4 {l l2:List jR}(hp:l2.Perm l)(hnd:(l2.map (·.1)).Nodup){i k:Nat}{y z:jR}(hy:l[i]? = some y)(hk:mJ l2 y.1=(k:Int))(hz:l2[k]? = some z):z.2=y.2:=by
 obtain⟨j,hj⟩:=aI.1 (hp.mem_iff.2 (ah hy))
 have h1:=Zk hnd hj
 rw [h1] at hk
 have:j=k:=by omega
 subst this
 rw [hj] at hz;cases hz;rfl
theorem alike_any {w:World}{R R2:Nat}{S S2:Tr}{sv fv sv2 fv2:Value}{K K2:Nat→List Nat}{d d2:Nat→Nat}(h:fZ 0 R S sv fv w)(h2:fZ 0 R2 S2 sv2 fv2 w)(hL:Lk S K d)(hL2:Lk S2 K2 d2)(i i2:Nat)(n n2:Nd)(hi:S.at i=some n)(hi2:S2.at i2=some n2)(hd:S2.hd i2=S.hd i)(ek:n2.kind=n.kind)(ed:n2.data=n.data)(el:n2.parent=n.parent∧n2.first=n.first∧n2.last=n.last∧n2.prev=n.prev∧n2.next=n.next)
  (hp:n2.attrs.Perm n.attrs)(hnd:(n2.attrs.map (·.1)).Nodup)(hk2:n2.attrs≠[]→n2.kind=2)(hl:n.attrs.length≤1000) :
  Calls Tryz.prog 21 #[.pointer (some ⟨R,0,none⟩),.pointer (some ⟨R2,0,none⟩),.int .i64 (S.hd i)] w fun e w'=>e=.returned (.bool true)∧Below w.heap.size w w':=by
 have hlen:n2.attrs.length=n.attrs.length:=hp.length_eq
 obtain⟨g2,cap2,rfl⟩:=fO h2 (by have:=iy hi2;omega)
 have HN:=ae (fun wx (hb:Below w.heap.size w wx)=>wM (h.below hb) (S.hd i) (hd_ok hL hi).1 (fV hL hi) (dN hi) hl)
 have HN2:=ae (fun wx (hb:Below w.heap.size w wx)=>hd ▸ wM (h2.below hb) (S2.hd i2) (hd_ok hL2 hi2).1 (fV hL2 hi2) (dN hi2) (by omega))
 have HA:=ae (fun wx (hb:Below w.heap.size w wx) (hk:n2.kind=2) (x:List UInt8)=>hd ▸ Zj (h2.below hb) hL2 i2 n2 hi2 hk (by omega) x)
 have HP:=ae hp
 have HNd:=ae hnd
 have HK2:=ae hk2
 obtain⟨p1,p2,p3,p4,p5⟩:=el
 clear h h2 hp hnd hk2 hi hi2 hd
 obtain⟨k,nm,av,sF,dt,pa,fi,la,pv',nx⟩:=n
 obtain⟨k',nm',av',att',dt',pa',fi',la',pv'',nx'⟩:=n2
 simp only at ek ed p1 p2 p3 p4 p5 hlen hl
 subst ek ed p1 p2 p3 p4 p5
 generalize S.hd i=hdl at *
 go_enter Tryz.func21,Tryz.ntmps21
 go_wp2_with fail
 refine(HN.out _ (ak _ _)).mono ?_
 rintro e w1 ⟨v1,rfl,ho1,hb1⟩
 obtain⟨a1,c1,rfl⟩:=bP ho1
 have hO1:=iD ho1 (aZ _)
 simp only [jd,dA] at *
 go_upto_region 2 with fail
 have k3:=dD.new w1 [.int .i64 k',.string ⟨nm.toArray⟩,.slice a1 sF.length c1,.string ⟨dt'.toArray⟩,.int .i64 pa',.int .i64 fi',.int .i64 la',.int .i64 pv'',.int .i64 nx'] 62
 have hb3:=(ak w1.heap.size w1).alloc (au _) (.cells #[.int .i64 k',.string ⟨nm.toArray⟩,.slice a1 sF.length c1,.string ⟨dt'.toArray⟩,.int .i64 pa',.int .i64 fi',.int .i64 la',.int .i64 pv'',.int .i64 nx'] 62)
 generalize w1.alloc (.cells #[.int .i64 k',.string ⟨nm.toArray⟩,.slice a1 sF.length c1,.string ⟨dt'.toArray⟩,.int .i64 pa',.int .i64 fi',.int .i64 la',.int .i64 pv'',.int .i64 nx'] 62)=w3 at *
 have HB3:=ae (aV hb1 hb3)
 have HO3:=ae (bH hO1 hb3)
 have HK3:=ae k3
 clear k3 hb3 ho1 hO1 hb1
 go_wp2_with fail
 refine(HN2.out _ HB3.out).mono ?_
 rintro e w4 ⟨v4,rfl,ho4,hb4⟩
 obtain⟨a4,c4,rfl⟩:=bP ho4
 rw [hlen]
 simp only [jd,dA] at *
 go_upto_region 3 with fail
 have k5:=dD.new w4 [.int .i64 k',.string ⟨nm'.toArray⟩,.slice a4 sF.length c4,.string ⟨dt'.toArray⟩,.int .i64 pa',.int .i64 fi',.int .i64 la',.int .i64 pv'',.int .i64 nx'] 62
 have hb5:=(ak w4.heap.size w4).alloc (au _) (.cells #[.int .i64 k',.string ⟨nm'.toArray⟩,.slice a4 sF.length c4,.string ⟨dt'.toArray⟩,.int .i64 pa',.int .i64 fi',.int .i64 la',.int .i64 pv'',.int .i64 nx'] 62)
 generalize w4.alloc (.cells #[.int .i64 k',.string ⟨nm'.toArray⟩,.slice a4 sF.length c4,.string ⟨dt'.toArray⟩,.int .i64 pa',.int .i64 fi',.int .i64 la',.int .i64 pv'',.int .i64 nx'] 62)=w5 at *
 have hb45:=aV hb4 hb5
 have HB5:=ae (aV HB3.out hb45)
 have HO5:=ae (bH HO3.out hb45)
 have HK5:=ae (HK3.out.below hb45)
 have c30:=HK5.out.cell 0
 have c32:=HK5.out.cell 2
 have c33:=HK5.out.cell 3
 have c34:=HK5.out.cell 4
 have c35:=HK5.out.cell 5
 have c36:=HK5.out.cell 6
 have c37:=HK5.out.cell 7
 have c38:=HK5.out.cell 8
 have c50:=k5.cell 0
 have c52:=k5.cell 2
 have c53:=k5.cell 3
 have c54:=k5.cell 4
 have c55:=k5.cell 5
 have c56:=k5.cell 6
 have c57:=k5.cell 7
 have c58:=k5.cell 8
 simp only [fQ,fP] at c30 c32 c33 c34 c35 c36 c37 c38 c50 c52 c53 c54 c55 c56 c57 c58
 generalize w3.heap.size=r3 at *
 clear HK3 HO3 HB3 k5 hb4 hb5 hb45 ho4
 go_wp2_with fail
 go_loopw [11,12,13] (fun iv sv tv wr=>Zt w5 sF.length iv sv tv wr) (fun iv _ _ _=>sF.length - iW iv)
 case atStart=>exact⟨0,aZ _,rfl,ak _ _⟩
 case round =>
  obtain⟨j,hj,rfl,hB⟩:=hrel
  have cr:=aU hB c32
  have HB:=ae hB
  have HBa:=ae (aV HB5.out hB)
  by_cases hlt:j < sF.length
  ·obtain⟨y,hy⟩:∃y,sF[j]? = some y:=⟨_,ay hlt⟩
   obtain⟨ga,ca,e1,q1,q2⟩:=Zc (bH HO5.out hB) hy
   simp only [bD,je] at e1
   obtain⟨rfl,rfl⟩:=e1
   have hji:(j:Int) < (sF.length:Int):=by omega
   have hne:att'≠[]:=fun e=>by rw [e] at hlen;simp at hlen;omega
   have HCa:=ae (HA.out _ HBa.out (HK2.out hne) y.1)
   have HV:=ae (fun k z h1 h2=>Y4 HP.out HNd.out hy (k:=k) (z:=z) h1 h2)
   have HNo:=ae (show mJ att' y.1≠-1 from fun e=>Jg e (bC.2 ⟨y,HP.out.mem_iff.2 (ah hy),rfl⟩))
   obtain⟨yn,yv⟩:=y
   simp only [dA] at q1 q2 HCa
   clear hB hy c30 c32 c33 c34 c35 c36 c37 c38 c50 c52 c53 c54 c55 c56 c57 c58
   go_wp2_with fail
   refine HCa.out.mono ?_
   rintro e w7 ⟨hb7,h7 | ⟨k,z,h7,h8,rfl⟩⟩
   ·exact absurd h7.1 HNo.out
   ·have hz:=HV.out k z h7 h8
    rw [hz]
    have cr7:=aU hb7 cr
    have q27:=aU hb7 q2
    have HB7:=ae (aV HB.out hb7)
    clear hz h7 h8 hb7 cr q2
    go_wp2_with fail
    go_roundw
    case rel=>exact⟨j+1,by omega,by go_num,HB7.out⟩
    case measure=>simp [iW];omega
  ·obtain rfl:j=sF.length:=by omega
   clear hB c30 c32 c33 c34 c35 c36 c37 c38 c50 c52 c53 c54 c55 c56 c57 c58
   go_wp2_with fail
   go_ret
   exact⟨rfl,HBa.out⟩
end Go.Proofs.YtfelmdkeaacfeaaGreatDoor.W
end
section
namespace Go.Proofs.YtfelmdkeaacfeaaGreatDoor.W
open Go.RowKit
theorem uP.len {M:List MN}{D:Nat→Nat}{o:ou}{M':List MN}{rs:List Rc}(h:uP M D o M' rs){N:Nat}(hN:∀f i m,lv M i=some m→(dR (kM M) f i).length≤N)(h1:1≤N):M'.length≤M.length+N:=by
 have l1:∀(L:List MN) p j c,(oU L p j c).length=L.length:=fun L p j c=>by unfold oU;simp
 have l2:∀(L:List MN) p j c,(uH L p j c).length=L.length:=fun L p j c=>by unfold uH;simp
 have l3:∀(L:List MN) l,(pX L l).length=L.length:=fun L l=>by unfold pX;simp
 cases h with
 | make M2 en hk hm=>cases hm <;> (try simp) <;> omega
 | off hk h=>omega
 | ins ma mb M2 rs2 en hk ha hb hc hm =>
  cases hm with
  | no h=>omega
  | other b mb h e hb hp=>omega
  | far h ho hd=>omega
  | ok M3 rs3 h ho hd hm=>cases hm <;> (try simp only [l1,l2]) <;> omega
 | rem ma M2 rs2 en hk ha hm=>cases hm <;> (try simp only [l2]) <;> omega
 | Rk ma M2 rs2 en hk ha hm=>cases hm <;> (try simp) <;> omega
 | Sl ma M2 rs2 en hk ha hm=>cases hm <;> (try simp) <;> omega
 | rep ma M2 rs2 en hk ha hm=>cases hm <;> (try simp) <;> omega
 | cpy ma M2 en hk ha hm =>
  cases hm with
  | doc h=>omega
  | deep h hd =>
   have:=hN (128 - D (o.iA M.length)) _ _ ha
   simp;omega
  | flat h hd=>simp;omega
 | dro ma M2 en hk ha hm=>cases hm <;> (try simp only [l3]) <;> omega
end Go.Proofs.YtfelmdkeaacfeaaGreatDoor.W
end
