/- Texts joined: Mdrp TwS RepB. -/
import Derived.Test.YtfelmdkeaacfeaaGreatDoorTB1
import Derived.Test.YtfelmdkeaacfeaaGreatDoorTB17
import Derived.Test.YtfelmdkeaacfeaaGreatDoorTB20
import Derived.Test.YtfelmdkeaacfeaaGreatDoorTB21
import Derived.Test.YtfelmdkeaacfeaaGreatDoorTB11
import Derived.Test.YtfelmdkeaacfeaaGreatDoorTB5
set_option maxRecDepth 100000
set_option maxHeartbeats 40000000
set_option linter.unusedVariables false
set_option linter.unusedSimpArgs false
section
namespace Go.Proofs.YtfelmdkeaacfeaaGreatDoor.W
open Go.RowKit
inductive Ci (M:List MN) (h:Nat) (mh:MN) (name:List UInt8):List MN→List Rc→Int→Prop
 | kind (hk:mh.kind≠2):Ci M h mh name M [] 10
 | no (hk:mh.kind=2) (h1:mJ mh.attrs name=-1):Ci M h mh name M [] 0
 | cut (k:Nat) (y:jR) (hk:mh.kind=2) (h1:mJ mh.attrs name=(k:Int)) (h2:mh.attrs[k]? = some y):Ci M h mh name (M.set h { mh with attrs:=mh.attrs.eraseIdx k }) [Ae h name y.2 true] 0
theorem Gp {l:List jR}{a b:Nat}{t:Nat}{u:Value}(h:(cu ((l.take b).drop a))[t]? = some u):(cu l)[2*a+t]? = some u:=by
 rw [← Et,← yD,oM,eX] at h
 split at h
 ·exact h
 ·cases h
theorem Je {w:World}{e:TypeId}{size n m:Nat}{v:Value}{xs:List Value}(h:Own w e size v n xs)(hn:n=m):Own w e size v m xs:=hn ▸ h
theorem EJ {Q g cap:Nat}{X:List MX}{w:World}(h:jC Q (.slice (some ⟨g,0,none⟩) X.length cap) X w)(hf:X.length≤100000){c:Nat}{mc:MN}(hc:lv (ms X) c=some mc)(hl:mc.attrs.length≤10000)(name:List UInt8) :
  Calls Tryz.prog 46 #[.pointer (some ⟨Q,0,none⟩),.int .i64 (c:Int),dA name] w (L6 Q g cap X w (Ci (ms X) c mc name)):=by
 have c0:=h.W.ptr
 obtain⟨ck,_,_⟩:=h.W.FZ hc
 have lc:=lU hc
 obtain⟨x,hx,rfl,hg⟩:=qG hc
 have H0:=ae h
 have HX:=ae hx
 have HFd:=ae (FW h.W hf c hx (by omega) name)
 have HQ:=ae (fun wx (hb:Below w.heap.size w wx)=>(h.below hb).W.ptr)
 obtain⟨aa,ac,hav⟩:=h.W.Ip (ah hx)
 have HC2:=ae (fun wx (hb:Below w.heap.size w wx)=>(h.below hb).W.cell hx 2 (by omega))
 simp only [qZ,fQ,fP,hav] at HC2
 have HAV:=ae hav
 clear h hc hx hav
 unfold dA at *
 by_cases hk:x.m.kind=2
 rotate_left
 ·have hb:(x.m.kind != 2)=true:=by simpa using hk
  go_enter Tryz.func46,Tryz.ntmps46
  go_wp2_with fail
  go_ret2
  exact⟨X,_,[],10,.kind hk,rfl,aG _ _ _ _,fU.refl H0.out (ak _ _)⟩
 have HK:=ae hk
 rw [hk] at ck
 clear hk
 have HMno:=ae (fun(c2:mJ x.m.attrs name=-1)=>Ci.no (M:=ms X) (h:=c) (mh:=x.m) HK.out c2)
 have HMcut:=ae (fun(k:Nat) (y:jR) (c2:mJ x.m.attrs name=(k:Int)) (c3:x.m.attrs[k]? = some y)=>Ci.cut (M:=ms X) (h:=c) (mh:=x.m) k y HK.out c2 c3)
 have hcases:=ug x.m.attrs name
 generalize Ci (ms X) c x.m name=RX at *
 generalize mJ x.m.attrs name=r at *
 go_enter Tryz.func46,Tryz.ntmps46
 go_wp2_with fail
 refine HFd.out.mono ?_
 rintro e wz ⟨rfl,hw⟩
 subst wz
 clear HFd
 rcases hcases with rfl | ⟨k,y,rfl,hy⟩
 ·go_wp2_with fail
  go_ret2
  exact⟨X,_,[],0,HMno.out (by first | rfl | trivial),rfl,aG _ _ _ _,fU.refl H0.out (ak _ _)⟩
 have hneg:decide ((k:Int) < 0)=false:=by simp
 have hkl:=(ai.1 hy).1
 have q2:=HC2.out _ (ak _ _)
 have HOx:=ae (fun wx (hb:Below w.heap.size w wx)=>(show Own wx 92 2 (.slice aa x.m.attrs.length ac) x.m.attrs.length (cu x.m.attrs) from by have:=(H0.out.below hb).W.sF x (ah HX.out);rw [HAV.out] at this;exact this))
 obtain⟨ga,hga⟩:∃ga,aa=some ⟨ga,0,none⟩:=by
  rcases(HOx.out w (ak _ _)).2 with ⟨e,_⟩ | ⟨ga,cap',cur,e,_⟩
  ·simp only [bD] at e;omega
  ·simp only [bD] at e;exact⟨ga,e.1⟩
 subst hga
 have hac:x.m.attrs.length≤ac:=by
  rcases(HOx.out w (ak _ _)).2 with ⟨e,_⟩ | ⟨ga',cap',cur,e,_,_,hc',_⟩
  ·simp only [bD] at e;omega
  ·simp only [bD] at e;obtain⟨_,_,rfl⟩:=e;exact hc'
 have q1:w.cell? ⟨ga,k*2+1,none⟩=some (.string ⟨y.2.toArray⟩):=by
  have:=iM (HOx.out w (ak _ _)) (2*k+1) _ (kz x.m.attrs k y hy).2
  rw [aP,aJ] at this
  rw [show k*2+1=2*k+1 by omega]
  exact this
 have HY:=ae hy
 clear hy
 go_upto_region 8 with fail
 have hA3:=(All.start w).PT w.heap.size rfl (recC 3 c (-1) (-1) (-1) 0 name y.2 true 0 0) 144
 change All w.heap.size w _ (w.alloc (.cells #[.int .i64 3,.int .i64 (c:Int),.int .i64 (-1),.int .i64 (-1),.int .i64 (-1),.int .i64 0,.string ⟨name.toArray⟩,.string ⟨y.2.toArray⟩,.bool true,.int .i64 0,.int .i64 0] 144)) at hA3
 generalize w.alloc (.cells #[.int .i64 3,.int .i64 (c:Int),.int .i64 (-1),.int .i64 (-1),.int .i64 (-1),.int .i64 0,.string ⟨name.toArray⟩,.string ⟨y.2.toArray⟩,.bool true,.int .i64 0,.int .i64 0] 144)=W at *
 have hb3:Below w.heap.size w W:=hA3.below
 have hQ:=H0.out.W.blk.lt
 have hgl:=jy H0.out.W.row (k:=g) rfl
 have hkgl:=jy (HOx.out w (ak _ _)) (k:=ga) rfl
 have e0:=HQ.out _ hb3
 have hQW:=aO hQ hb3.size
 have hgW:=aO hgl hb3.size
 have hkW:=aO hkgl hb3.size
 have ea:∀o,(W.alloc o).cell? ⟨Q,0,none⟩=some (.slice (some ⟨g,0,none⟩) X.length cap):=fun o=>(fF _ _ _ hQW).trans e0
 have HA3:=ae hA3
 have hn:=HA3.out.drew.sN 92 2 0 [] rfl (by omega)
 have HN:=ae hn
 have T1:=ae (show(cu (x.m.attrs.take k)).length=k*2 from by rw [lJ,fC];omega)
 have T2:=ae (show ∀wx,Below w.heap.size w wx→∀t u,(cu (x.m.attrs.take k))[t]? = some u→wx.cell? ((⟨ga,0,none⟩:Addr).add t)=some u from fun wx hb t u hu =>
  iM (HOx.out wx hb) t u (by have:=Gp (l:=x.m.attrs) (a:=0) (b:=k) (t:=t) (u:=u) (by simpa using hu);simpa using this))
 have T3:=ae (sU (x.m.attrs.take k))
 have U1:=ae (show(cu (x.m.attrs.drop (k+1))).length=(x.m.attrs.length - (k+1))*2 from by rw [lJ,aS])
 have U3:=ae (sU (x.m.attrs.drop (k+1)))
 have U2:=ae (show ∀wx,Below w.heap.size w wx→∀t u,(cu (x.m.attrs.drop (k+1)))[t]? = some u→wx.cell? ((⟨ga,(k+1)*2,none⟩:Addr).add t)=some u from fun wx hb t u hu=>by
  have:=iM (HOx.out wx hb) (2*(k+1)+t) u (Gp (l:=x.m.attrs) (a:=k+1) (b:=x.m.attrs.length) (by rw [dE];exact hu))
  rw [aP] at this ⊢
  rw [show(k+1)*2+t=0+(2*(k+1)+t) by omega]
  exact this)
 have HE2:=ae (show cu (x.m.attrs.take k) ++ cu (x.m.attrs.drop (k+1))=cu (x.m.attrs.eraseIdx k) from by rw [← Gt,jU])
 have HE1:=ae (show ac=k+1→cu (x.m.attrs.take k)=cu (x.m.attrs.eraseIdx k) from fun e=>by rw [jU,fK (by omega),aT])
 have hel:(x.m.attrs.eraseIdx k).length=x.m.attrs.length - 1:=by rw [Xk,aC hkl]
 have hjk:(k:Int)≤(ac:Int):=by omega
 have hj1:(k:Int)+1≤(x.m.attrs.length:Int):=by omega
 have hj2:(k:Int)≤(k:Int)+1:=by omega
 have hwr:IntKind.i64.wrap ((k:Int)+1)=(k:Int)+1:=XR _ (by omega) (by omega)
 have hj4:((k:Int)+1).toNat=k+1:=by omega
 have hj5:(0:Int)≤(k:Int)+1:=by omega
 have HF:=ae (fun wx (hb:Below w.heap.size w wx)=>(H0.out.below hb).W.Ou)
 have hQg:Q≠g:=fun e=>by
  have h1:=H0.out.W.blk
  obtain⟨cg,hg⟩:=dF H0.out.W.row (b:=g) rfl
  rw [e] at h1
  exact dw h1 hg (by decide) rfl
 have hgQ:g≠Q:=fun e=>hQg e.symm
 clear hA3 hn q1 q2 c0 ck hb3
 by_cases hce:ac=k+1
 case pos =>
  subst hce
  go_region_held3 (fun w'=>w'.cell? ⟨Q,0,none⟩=some (.slice (some ⟨g,0,none⟩) X.length cap)) (first | exact e0 | exact ea _ | exact e4 | exact e5 | (go_keep;done)) (first
   | (refine bU Uw [] HN.out T1.out (T2.out _ HN.out.below) T3.out (by omega) (by omega) (by rfl) _ _ (by rfl) (by rfl) (by rfl) ?_;intro v' w4 hA4 hv4;have e4:=HQ.out _ hA4.below;simp only [List.nil_append,aJ] at hA4;obtain⟨va,vc,rfl⟩:=aW (show Own _ _ _ _ _ _ from hA4.head);have HA4:=ae hA4;have HV4:=ae hv4;clear hA4 hv4)
   | (refine bU Uw [] HA4.out (m:=0) (ys:=[]) rfl (fun t u hu=>by cases hu) (fun u hu=>by cases hu) (by omega) (by omega) (by rfl) _ _ (by rfl) (by rfl) (by rfl) ?_;intro v' w5 hA5 hv5;have e5:=HQ.out _ hA5.below;have f5:=HC2.out _ hA5.below;have z5:=HF.out _ hA5.below (c*7+2);simp only [List.nil_append,aT,Nat.add_zero] at hA5;rw [HE1.out rfl] at hA5;obtain⟨va2,vc2,rfl⟩:=aW (show Own _ _ _ _ _ _ from hA5.head);have HA5:=ae hA5;have HV5:=ae hv5;clear hA5 hv5))
  all_goals
   have hp:=H0.out.Ud HX.out (dU.of_below HA5.out.below) (.slice va2 (k) vc2) (x.m.attrs.eraseIdx k) (Je HA5.out.head (by omega)) (.inr (fun b hb=>HA5.out.base _ (List.Mem.head _) b hb))
   have hk5:dD w5 w.heap.size _ _:=HA5.out.tail.head
   have hk6:=hk5.setOther ⟨g,c*7+2,none⟩ (by show w.heap.size≠g;omega) (.slice va2 (k) vc2)
   have HP6:=ae hp
   have HK6:=ae hk6
   unfold recC dA at HK6
   clear hp hk5 hk6 e5 f5 z5
   generalize World.setCell w5 ⟨g,c*7+2,none⟩ _=w6 at *
   obtain⟨⟨b0,b1,b2,b3,b4,b5,b6,b7,b8,b9,b10⟩,zf⟩:=sJ HK6.out
   go_wp2_with fail
   go_ret2
   refine⟨_,_,[Ae c name y.2 true],0,?_,rfl,Am w6 _ HP6.out.qU.size,HP6.out.still ((ak _ _).alloc (au _) _)⟩
   rw [uh]
   exact HMcut.out k y (by first | rfl | trivial) HY.out
 case neg =>
  go_region_held3 (fun w'=>w'.cell? ⟨Q,0,none⟩=some (.slice (some ⟨g,0,none⟩) X.length cap)) (first | exact e0 | exact ea _ | exact e4 | exact e5 | (go_keep;done)) (first
   | (refine bU Uw [] HN.out T1.out (T2.out _ HN.out.below) T3.out (by omega) (by omega) (by rfl) _ _ (by rfl) (by rfl) (by rfl) ?_;intro v' w4 hA4 hv4;have e4:=HQ.out _ hA4.below;simp only [List.nil_append,aJ] at hA4;obtain⟨va,vc,rfl⟩:=aW (show Own _ _ _ _ _ _ from hA4.head);have HA4:=ae hA4;have HV4:=ae hv4;clear hA4 hv4)
   | (refine bU Uw [] HA4.out U1.out (U2.out _ HA4.out.below) U3.out (by omega) (by omega) (by rfl) _ _ (by rfl) (by rfl) (by rfl) ?_;intro v' w5 hA5 hv5;have e5:=HQ.out _ hA5.below;have f5:=HC2.out _ hA5.below;have z5:=HF.out _ hA5.below (c*7+2);simp only [List.nil_append] at hA5;rw [HE2.out] at hA5;obtain⟨va2,vc2,rfl⟩:=aW (show Own _ _ _ _ _ _ from hA5.head);have HA5:=ae hA5;have HV5:=ae hv5;clear hA5 hv5))
  all_goals
   have hp:=H0.out.Ud HX.out (dU.of_below HA5.out.below) (.slice va2 (k+(x.m.attrs.length - (k+1))) vc2) (x.m.attrs.eraseIdx k) (Je HA5.out.head (by omega)) (.inr (fun b hb=>HA5.out.base _ (List.Mem.head _) b hb))
   have hk5:dD w5 w.heap.size _ _:=HA5.out.tail.head
   have hk6:=hk5.setOther ⟨g,c*7+2,none⟩ (by show w.heap.size≠g;omega) (.slice va2 (k+(x.m.attrs.length - (k+1))) vc2)
   have HP6:=ae hp
   have HK6:=ae hk6
   unfold recC dA at HK6
   clear hp hk5 hk6 e5 f5 z5
   generalize World.setCell w5 ⟨g,c*7+2,none⟩ _=w6 at *
   obtain⟨⟨b0,b1,b2,b3,b4,b5,b6,b7,b8,b9,b10⟩,zf⟩:=sJ HK6.out
   go_wp2_with fail
   go_ret2
   refine⟨_,_,[Ae c name y.2 true],0,?_,rfl,Am w6 _ HP6.out.qU.size,HP6.out.still ((ak _ _).alloc (au _) _)⟩
   rw [uh]
   exact HMcut.out k y (by first | rfl | trivial) HY.out
theorem DV {α : Type}{l:List α}{k:Nat}{x a:α}(h:a∈l.set k x):a=x∨a∈l:=by
 rcases qp h with h | h
 ·exact .inr h
 ·exact .inl h
theorem MQ {l:List jR}{x:List UInt8}{k:Nat}{y:jR}(h:mJ l x=(k:Int))(hy:l[k]? = some y):y.1=x:=by
 unfold mJ at h
 cases e:l.findIdx? (fun y=>y.1 == x) with
 | none=>rw [e] at h;simp at h
 | some i =>
  rw [e] at h
  have hik:(i:Int)=(k:Int):=by simpa using h
  have hik:i=k:=by omega
  subst hik
  obtain⟨hi,hp,_⟩:=rW.1 e
  rw [ay hi] at hy
  cases hy
  simpa using hp
theorem Jg {l:List jR}{x:List UInt8}(h:mJ l x=-1):x∉l.map (·.1):=by
 unfold mJ at h
 cases e:l.findIdx? (fun y=>y.1 == x) with
 | some i=>rw [e] at h;simp at h
 | none =>
  rw [X8] at e
  intro hm
  obtain⟨y,hy,rfl⟩:=bC.1 hm
  have:=e y hy
  simp at this
theorem zu {l:List jR}{k:Nat}{y:jR}(hy:l[k]? = some y)(v:List UInt8):(l.set k (y.1,v)).map (·.1)=l.map (·.1):=by
 apply gu
 intro j
 simp only [bI,dH]
 by_cases e:k=j
 ·subst e
  have hk:=(ai.1 hy).1
  rw [aC rfl,aC hk,hy];rfl
 ·rw [ax e]
theorem Qr (S:Tr)(σ : Nat→Nat):hM S σ (-1)=0:=by unfold hM;rw [aC (by omega)]
theorem Au (S:Tr)(σ : Nat→Nat)(i:Nat)(name old:List UInt8)(had:Bool):encR (vC S σ (Ae i name old had))=recC 3 (S.hd (σ i)) 0 0 0 0 name old had 0 0:=by
 unfold vC Ae
 simp only [Qr,A8]
 rfl
theorem Tw.Ef {ex:Prop}{E:Nat→Prop}{c:Nat}{S:Tr}{K:Nat→List Nat}{M:List MN}{σ : Nat→Nat}(W:Tw ex E c S K M σ){i:Nat}{m:MN}(hi:lv M i=some m):m.gone=false:=by
 unfold lv at hi
 cases e:M[i]? with
 | none=>rw [e] at hi;cases hi
 | some x =>
  rw [e] at hi
  cases hg:x.gone with
  | true=>simp [hg] at hi
  | false=>simp [hg] at hi;rw [← hi];exact hg
theorem zV.attrs {c:Nat}{n:Nd}(h:zV c n)(hk:n.kind=2)(av:Value)(l:List jR)(h1:∀a∈l,headB a.1=true∧Lib.validD a.2=true∧a.1.length≤200∧a.2.length≤200)(h2:(l.map (·.1)).Nodup)(h3:l.length≤64):zV c { n with av:=av,attrs:=l } :=
 ⟨h.kd,h.el,fun e=>(by have e:n.kind=3∨n.kind=4:=e;omega),fun e=>(by have e:n.kind=1:=e;omega),h1,h2,h3,h.dl,h.nl⟩
theorem Tw.Rk {E:Nat→Prop}{c W0:Nat}{S S':Tr}{K:Nat→List Nat}{d:Nat→Nat}{M M':List MN}{σ : Nat→Nat}(W:Tw True E c S K M σ)(T:iP c S K d){i:Nat}{m:MN}{n:Nd}(hi:lv M i=some m)(hn:S.at (σ i)=some n){name val:List UInt8}{rs:List Rc}{en en':Int}{v:Value}{l:List (List Value)}
  (hm:zW M i m name val M' rs en)(ht:Cc W0 S (σ i) n name val S' v en' l)(hna:name.length≤200)(hva:val.length≤50)(hc:c≤60) :
  en'=en∧l=rs.map (fun r=>encR (vC S σ r))∧iP (c+1) S' K d∧Tw True E (c+1) S' K M' σ:=by
 obtain⟨n',hn',hkd,hnm,hdt,hat⟩:=W.node i m hi
 rw [hn] at hn';cases hn'
 have hat:=hat trivial
 have hma:=W.ma i m hi
 have T1:=T.mono (ed c)
 have W1:=W.mono (ed c)
 have hok:=T1.nd _ n hn
 have hfx:=mO val
 have hnew:headB name=true→headB name=true∧Lib.validD (fix val)=true∧name.length≤200∧(fix val).length≤200:=fun h=>⟨h,wW _,hna,by omega⟩
 have hv:=W.Ef hi
 cases ht with
 | kind h=>cases hm with
  | kind _=>exact⟨rfl,rfl,T1,W1⟩
  | arg hk _=>exact absurd (hkd.trans hk) h
  | add hk _ _=>exact absurd (hkd.trans hk) h
  | set k y hk _ _ _=>exact absurd (hkd.trans hk) h
 | arg hk h=>cases hm with
  | kind h2=>exact absurd (hkd.symm.trans hk) h2
  | arg _ _=>exact⟨rfl,rfl,T1,W1⟩
  | add _ h2 _=>rw [h] at h2;cases h2
  | set k y _ h2 _ _=>rw [h] at h2;cases h2
 | full hk h h1 h2=>rw [hat] at h2;omega
 | add v av hk h h1 h2 hfr=>cases hm with
  | kind h3=>exact absurd (hkd.symm.trans hk) h3
  | arg _ h3=>rw [h] at h3;cases h3
  | set k y _ _ h3 _=>rw [hat] at h1;rw [h1] at h3;omega
  | add _ _ _ =>
   refine⟨rfl,by simp [Au],T1.put hn rfl rfl rfl rfl rfl rfl (hok.attrs hk av _ (fun a ha=>?_) ?_ (by simp;omega)),W1.put hi hn hkd hnm hdt (fun _=>by rw [hat,pY]) rfl rfl hv (by simp;omega)⟩
   ·rcases cZ.1 ha with ha | ha
    ·exact hok.at_ a ha
    ·rw [eF] at ha;subst ha;exact hnew h
   ·rw [ig,jf]
    refine⟨hok.nd,by simp,fun a ha b hb e=>?_⟩
    simp at hb
    subst hb e
    exact Jg h1 ha
 | set v av k y hk h h1 h2 hfr=>cases hm with
  | kind h3=>exact absurd (hkd.symm.trans hk) h3
  | arg _ h3=>rw [h] at h3;cases h3
  | add _ _ h3=>rw [hat] at h1;rw [h1] at h3;omega
  | set k' y' _ _ h3 h4 =>
   rw [hat] at h1 h2
   have e:k=k':=by rw [h1] at h3;omega
   subst e
   rw [h2] at h4;cases h4
   have hyn:=MQ h1 h2
   refine⟨rfl,by simp [Au],T1.put hn rfl rfl rfl rfl rfl rfl (hok.attrs hk av _ (fun a ha=>?_) ?_ (by simp;exact hok.al)),W1.put hi hn hkd hnm hdt (fun _=>by rw [hat,pY]) rfl rfl hv (by simp;omega)⟩
   ·rcases DV ha with e | ha
    ·subst e;rw [hyn];exact hnew h
    ·exact hok.at_ a ha
   ·rw [hat,zu h2,← hat];exact hok.nd
theorem Tw.Sl {E:Nat→Prop}{c W0:Nat}{S S':Tr}{K:Nat→List Nat}{d:Nat→Nat}{M M':List MN}{σ : Nat→Nat}(W:Tw True E c S K M σ)(T:iP c S K d){i:Nat}{m:MN}{n:Nd}(hi:lv M i=some m)(hn:S.at (σ i)=some n){name:List UInt8}{rs:List Rc}{en en':Int}{v:Value}{l:List (List Value)}
  (hm:Ci M i m name M' rs en)(ht:Iy W0 S (σ i) n name S' v en' l) :
  en'=en∧l=rs.map (fun r=>encR (vC S σ r))∧iP c S' K d∧Tw True E c S' K M' σ:=by
 obtain⟨n',hn',hkd,hnm,hdt,hat⟩:=W.node i m hi
 rw [hn] at hn';cases hn'
 have hat:=hat trivial
 have hma:=W.ma i m hi
 have hok:=T.nd _ n hn
 have hv:=W.Ef hi
 cases ht with
 | kind h=>cases hm with
  | kind _=>exact⟨rfl,rfl,T,W⟩
  | no hk _=>exact absurd (hkd.trans hk) h
  | cut k y hk _ _=>exact absurd (hkd.trans hk) h
 | no hk h1=>cases hm with
  | kind h3=>exact absurd (hkd.symm.trans hk) h3
  | no _ _=>exact⟨rfl,rfl,T,W⟩
  | cut k y _ h3 _=>rw [hat] at h1;rw [h1] at h3;omega
 | cut v av k y hk h1 h2 hfr=>cases hm with
  | kind h3=>exact absurd (hkd.symm.trans hk) h3
  | no _ h3=>rw [hat] at h1;rw [h1] at h3;omega
  | cut k' y' _ h3 h4 =>
   rw [hat] at h1 h2
   have e:k=k':=by rw [h1] at h3;omega
   subst e
   rw [h2] at h4;cases h4
   have hsub:(n.attrs.eraseIdx k).Sublist n.attrs:=lT _ _
   have hal:=hok.al
   have hle:=hsub.length_le
   have hle2:(m.attrs.eraseIdx k).length≤m.attrs.length:=(lT _ _).length_le
   refine⟨rfl,by simp [Au],T.put hn rfl rfl rfl rfl rfl rfl (hok.attrs hk av _ (fun a ha=>hok.at_ a (hsub.subset ha)) ((hsub.map _).nodup hok.nd) (by omega)),W.put hi hn hkd hnm hdt (fun _=>by rw [hat]) rfl rfl hv (by show(m.attrs.eraseIdx k).length≤c+2;omega)⟩
def Ap (data:List UInt8)(ix cnt:Int)(s:List UInt8):List UInt8 :=
 oC data 0 ix ++ fix s ++ oC data (ix+min cnt (Lib.runeCount ⟨data.toArray⟩ - ix)) (Lib.runeCount ⟨data.toArray⟩)
inductive uJ (S:Tr) (i:Nat) (n:Nd) (ix cnt:Int) (s:List UInt8):Tr→Value→Int→List (List Value)→Prop
 | kind (h:n.kind=1∨n.kind=2):uJ S i n ix cnt s S (.slice none 0 0) 10 []
 | rng (hk:n.kind=3∨n.kind=4) (h:ix < 0∨(Lib.runeCount ⟨n.data.toArray⟩:Int) < ix∨cnt < 0):uJ S i n ix cnt s S (.slice none 0 0) 2 []
 | long (hk:n.kind=3∨n.kind=4) (h:1048576 < (Ap n.data ix cnt s).length):uJ S i n ix cnt s S (.slice none 0 0) 5 []
 | yes (v:Value) (hk:n.kind=3∨n.kind=4) (h0:0≤ix) (h1:ix≤(Lib.runeCount ⟨n.data.toArray⟩:Int)) (h2:0≤cnt) :
   uJ S i n ix cnt s (S.put i { n with data:=Ap n.data ix cnt s }) v 0 [recC 4 (S.hd i) 0 0 0 ix [] n.data false (min cnt (Lib.runeCount ⟨n.data.toArray⟩ - ix)) (Lib.runeCount ⟨(fix s).toArray⟩)]
theorem KF {B R g cap:Nat}{S:Tr}{fv:Value}{w:World}{K d}(h:fZ B R S (.slice (some ⟨g,0,none⟩) S.slots.length cap) fv w)(hL:Lk S K d)(i:Nat)(n:Nd)(hi:S.at i=some n)(hk:n.kind=3)(hl:n.data.length≤1048576)
  (ix cnt:Int)(h0:-1000≤ix)(h1:ix≤1000)(h2:-2000000≤cnt)(h3:cnt≤2000000)(s:List UInt8)(hs:s.length≤100000)(hT:Laid w) :
  Calls Tryz.prog 19 #[.pointer (some ⟨R,0,none⟩),.int .i64 (S.hd i),.int .i64 ix,.int .i64 cnt,dA s] w fun e w'=>∃S' v er l,uJ S i n ix cnt s S' v er l∧e=.returned (.tuple #[v,.int .i64 er]) ∧
   sG w' w.heap.size v l∧fZ B R S' (.slice (some ⟨g,0,none⟩) S'.slots.length cap) fv w'∧dU (fun k=>k=g) w w':=by
 have HA:=ae (bV h (S.hd i) (hd_ok hL hi).1 (fV hL hi))
 have HC:=ae (fun wx (hb:Below w.heap.size w wx)=>bK (h.below hb) hi 0 (by omega))
 have HD:=ae (fun wx (hb:Below w.heap.size w wx)=>bK (h.below hb) hi 3 (by omega))
 have HF:=ae (fun wx (hb:Below w.heap.size w wx)=>iI (h.below hb) (i*10+1+3))
 simp only [jd,fQ,fP] at HC HD
 simp only [hk] at HC
 have HTx:=ae h
 have Hi:=ae hi
 have HLn:=ae (fun wx=>zC n.data wx (by omega))
 have hrc:=xC n.data
 have HRp:=ae (fun wx (hb:Below w.heap.size w wx)=>nT s wx (by omega) (hT.below hb))
 have hfl:=mO s
 have HSl:=ae (fun a b wx (hb:Below w.heap.size w wx)=>Fv n.data a b wx (by omega) (hT.below hb))
 have hsl:=xR n.data
 have HLn2:=ae (fun wx=>zC (fix s) wx (by omega))
 unfold dA at *
 have HKd:=ae (show n.kind=3∨n.kind=4 from by omega)
 have HEnd:=ae (fun(v:Value) (h4:0≤ix) (h5:ix≤(Lib.runeCount ⟨n.data.toArray⟩:Int)) (h6:0≤cnt)=>uJ.yes (S:=S) (i:=i) (n:=n) (s:=s) v HKd.out h4 h5 h6)
 have HRng:=ae (fun(h4:ix < 0∨(Lib.runeCount ⟨n.data.toArray⟩:Int) < ix∨cnt < 0)=>uJ.rng (S:=S) (i:=i) (s:=s) HKd.out h4)
 have HLong:=ae (fun(h4:1048576 < (Ap n.data ix cnt s).length)=>uJ.long (S:=S) (i:=i) HKd.out h4)
 unfold Ap at HEnd HLong
 generalize uJ S i n ix cnt s=RX at *
 generalize (Lib.runeCount ⟨n.data.toArray⟩)=rc at *
 generalize (Lib.runeCount ⟨(fix s).toArray⟩)=rc2 at *
 generalize fix s=s' at *
 clear h hL hi hT hk
 go_enter Tryz.func19,Tryz.ntmps19
 go_wp2_with fail
 refine HA.out.mono ?_
 rintro e w1 ⟨rfl,hb1⟩
 have c0:=HC.out _ hb1
 have c3:=HD.out _ hb1
 go_wp2_with fail
 refine(HLn.out _).mono ?_
 rintro e w2 ⟨rfl,hb2⟩
 have hB2:=aV hb1 hb2
 clear c0 c3
 by_cases hneg:ix < 0
 ·have e0:decide (ix < 0)=true:=by simpa using hneg
  go_wp2_with fail
  go_ret2
  exact⟨S,_,2,[],HRng.out (.inl hneg),rfl,aG _ _ _ _,HTx.out.below hB2,dU.of_below hB2⟩
 have e0:decide (ix < 0)=false:=by simpa using hneg
 by_cases hrg:(rc:Int) < ix
 ·have e1:decide ((rc:Int) < ix)=true:=by simpa using hrg
  go_wp2_with fail
  go_ret2
  exact⟨S,_,2,[],HRng.out (.inr (.inl hrg)),rfl,aG _ _ _ _,HTx.out.below hB2,dU.of_below hB2⟩
 ·have e1:decide ((rc:Int) < ix)=false:=by simpa using hrg
  by_cases hcn:cnt < 0
  ·have e2:decide (cnt < 0)=true:=by simpa using hcn
   go_wp2_with fail
   go_ret2
   exact⟨S,_,2,[],HRng.out (.inr (.inr hcn)),rfl,aG _ _ _ _,HTx.out.below hB2,dU.of_below hB2⟩
  have e2:decide (cnt < 0)=false:=by simpa using hcn
  go_wp2_with fail
  refine(HRp.out _ hB2).mono ?_
  rintro e w3 ⟨rfl,hb3⟩
  have hB3:=aV hB2 hb3
  have g3:g < w3.heap.size:=aO (HTx.out.slots.lt g rfl).2 hB3.size
  have c3:=HD.out _ hB3
  have x3:∀x:dS (jc w3),x.w.cell? ⟨g,i*10+1+3,none⟩=some (.string ⟨n.data.toArray⟩):=fun x=>((oK x.h).1 _ _ g3).trans c3
  have hne:=gI w3
  go_upto_region 11 with fail
  obtain⟨c1,hcnt⟩:∃c1,c1=min cnt ((rc:Int) - ix):=⟨_,rfl⟩
  rw [← hcnt]
  rw [← hcnt] at HEnd HLong
  have hc0:0≤c1∧c1≤(rc:Int) - ix:=by omega
  clear hcnt
  have hl1:=hsl 0 ix
  have hl2:=hsl (ix+c1) (rc:Int)
  generalize ht1:oC n.data 0 ix=t1 at *
  generalize ht2:oC n.data (ix+c1) (rc:Int)=t2 at *
  refine oP (fun k=>if k=0 then .string ⟨t1.toArray⟩ else .string ⟨t2.toArray⟩) 18 (by kernel_rfl) (by kernel_rfl) ?_
  simp only [mD,mr,l9,lZ]
  repeat (first
   | (refine aN (by rfl) (by rfl) (fun K hK=>?_);go_big_quiet_step (fail);refine az ?_;refine hK.out _ ?_;clear hK K)
   | (refine aK (by rfl) ?_;simp only [Act.put,dL,dK,dJ]))
  refine dM (.string ⟨t1.toArray⟩) rfl (by rfl) (by rfl) (fun w=>by go_simp;exact⟨rfl,rfl⟩) ?_ ?_
  ·intro X wx hx
   refine(HSl.out 0 ix _ (hB3.trans (hx.mono hB3.size))).mono ?_
   rintro e wy ⟨rfl,hb⟩
   exact⟨by rw [ht1],jw hx (hb.mono hx.size)⟩
  simp only [Act.put,dL,dK,dJ]
  repeat (first
   | (refine aN (by rfl) (by rfl) (fun K hK=>?_);go_big_quiet_step (fail);refine az ?_;refine hK.out _ ?_;clear hK K)
   | (refine aK (by rfl) ?_;simp only [Act.put,dL,dK,dJ]))
  refine dM (.string ⟨t2.toArray⟩) rfl (by rfl) (by rfl) (fun w=>by go_simp;exact⟨rfl,rfl⟩) ?_ ?_
  ·intro X wx hx
   refine(HSl.out (ix+c1) (rc:Int) _ (hB3.trans (hx.mono hB3.size))).mono ?_
   rintro e wy ⟨rfl,hb⟩
   exact⟨by rw [ht2],jw hx (hb.mono hx.size)⟩
  simp only [Act.put,dL,dK,dJ]
  repeat (first
   | (refine aN (by rfl) (by rfl) (fun K hK=>?_);go_big_quiet_step (fail);refine az ?_;refine hK.out _ ?_;clear hK K)
   | (refine aK (by rfl) ?_;simp only [Act.put,dL,dK,dJ]))
  refine eH ?_
  intro w5 h5
  rw [pK,pK]
  generalize hdat:t1 ++ s' ++ t2=dat at *
  have hdl:dat.length≤20000000:=by rw [← hdat,aA,aA];omega
  have hsz:(⟨dat.toArray⟩:ByteArray).size=dat.length:=by show dat.toArray.size=_;simp
  have HLg:=ae (fun wx=>lW ⟨dat.toArray⟩ (by rw [hsz];omega) wx)
  rw [hsz] at HLg
  have hB5:=aV hB3 h5
  clear hne x3 ht1 ht2 hdat
  by_cases hlong:1048576 < dat.length
  ·rw [dZ hlong] at HLg
   go_wp2_with fail
   refine(HLg.out _).mono ?_
   rintro e w6 ⟨rfl,hw⟩
   rw [hw]
   clear hw
   go_wp2_with fail
   go_ret2
   exact⟨S,_,5,[],HLong.out hlong,rfl,aG _ _ _ _,HTx.out.below hB5,dU.of_below hB5⟩
  ·rw [eP hlong] at HLg
   go_wp2_with fail
   refine(HLg.out _).mono ?_
   rintro e w6 ⟨rfl,hw⟩
   rw [hw]
   clear hw
   have g5:g < w5.heap.size:=aO (HTx.out.slots.lt g rfl).2 hB5.size
   have c5:=HD.out _ hB5
   have x5:∀x:dS (lC w5.heap.size w5 (fun _=>[])),x.w.cell? ⟨g,i*10+1+3,none⟩=some (.string ⟨n.data.toArray⟩):=fun x=>by
    obtain⟨k,X,hx⟩:=x.h
    exact((oK hx.below).1 _ _ g5).trans c5
   have hne':Nonempty (dS (lC w5.heap.size w5 (fun _=>[]))):=⟨⟨_,0,[],All.start w5⟩⟩
   go_upto_region 14 with fail
   refine yX w5.heap.size w5 (fun _=>[]) (fun _=>.int .i64 (rc2:Int)) (fun _ r=>.pointer (some ⟨r,0,none⟩)) (fun _=>[.int .i64 0,.int .i64 0,.int .i64 0,.int .i64 0,.int .i64 0,.int .i64 0,.string ⟨#[]⟩,.string ⟨#[]⟩,.bool false,.int .i64 0,.int .i64 0]) (fun _=>41) 11 (by kernel_rfl) (by kernel_rfl) (All.start w5) ?_
   simp only [mD,mr,l9,lZ]
   repeat (first
    | (refine aN (by rfl) (by rfl) (fun K hK=>?_);go_big_quiet_step (fail);refine az ?_;refine hK.out _ ?_;clear hK K)
    | (refine aK (by rfl) ?_;simp only [Act.put,dL,dK,dJ]))
   refine dM (.int .i64 (rc2:Int)) rfl (by rfl) (by rfl) (fun w=>by go_simp;exact⟨rfl,rfl⟩) ?_ ?_
   ·intro X wx hx
    refine(HLn2.out _).mono ?_
    rintro e wy ⟨rfl,hb⟩
    exact⟨rfl,All.still hx hb⟩
   simp only [Act.put,dL,dK,dJ]
   repeat (first
    | (refine aN (by rfl) (by rfl) (fun K hK=>?_);go_big_quiet_step (fail);refine az ?_;refine hK.out _ ?_;clear hK K)
    | (refine aK (by rfl) ?_;simp only [Act.put,dL,dK,dJ]))
   refine rY (fun r=>.pointer (some ⟨r,0,none⟩)) [.int .i64 0,.int .i64 0,.int .i64 0,.int .i64 0,.int .i64 0,.int .i64 0,.string ⟨#[]⟩,.string ⟨#[]⟩,.bool false,.int .i64 0,.int .i64 0] 41 rfl rfl rfl (by rfl) (by rfl) (fun w=>by go_simp) ?_
   intro r
   simp only [Act.put,dL,dK,dJ]
   refine eH ?_
   intro w7 hA7
   simp only [List.cons_append,List.nil_append,aT] at hA7
   have k7:dD w7 r (recC 0 0 0 0 0 0 [] [] false 0 0) 41:=hA7.head
   have hr:w5.heap.size≤r:=hA7.base _ (List.Mem.head _) r rfl
   have hB7:Below w5.heap.size w5 w7:=hA7.below
   obtain⟨⟨q0,q1,q2,q3,q4,q5,q6,q7,q8,q9,q10⟩,zf⟩:=qK k7
   clear hne' x5 c5 hA7
   go_upto_region 15 with fail
   refine GR (G:=fun wx=>Code.wp _ _ _ _ wx) k7 _ _ _ _ _ _ _ _ _ _ _ ?_
   intro w8 k8 hch8
   clear q0 q1 q2 q3 q4 q5 q6 q7 q8 q9 q10 zf
   have hB8:Below w.heap.size w w8:=(hB5.trans (hB7.mono hB5.size)).trans (hch8.below (aQ hB5.size hB7.size) (fun k e=>by subst e;exact aQ hB5.size hr))
   have c8:=HD.out _ hB8
   have z8:=HF.out _ hB8
   have HK8:=ae k8
   clear hch8 k7 k8
   go_upto_region 16 with fail
   have hT10:=(HTx.out.below hB8).rX (n':={ n with data:=dat }) Hi.out 3 (.string ⟨dat.toArray⟩) (by omega) rfl rfl rfl
   have hch10:dU (fun k=>k=g) w (w8.setCell ⟨g,i*10+1+3,none⟩ (.string ⟨dat.toArray⟩)):=(dU.of_below (F:=fun k=>k=g) hB8).setCell ⟨g,i*10+1+3,none⟩ (fun _=>(rfl:g=g)) _
   have hk10:=HK8.out.setOther ⟨g,i*10+1+3,none⟩ (by show r≠g;omega) (.string ⟨dat.toArray⟩)
   have hs10:w.heap.size≤(w8.setCell ⟨g,i*10+1+3,none⟩ (.string ⟨dat.toArray⟩)).heap.size:=by simp [World.setCell];exact hB8.size
   have HT10:=ae hT10
   have HCh10:=ae hch10
   clear hT10 hch10 HK8 c8 z8
   generalize w8.setCell ⟨g,i*10+1+3,none⟩ (.string ⟨dat.toArray⟩)=w10 at *
   have b0:=hk10.cell 0
   have b1:=hk10.cell 1
   have b2:=hk10.cell 2
   have b3:=hk10.cell 3
   have b4:=hk10.cell 4
   have b5:=hk10.cell 5
   have b6:=hk10.cell 6
   have b7:=hk10.cell 7
   have b8:=hk10.cell 8
   have b9:=hk10.cell 9
   have b10:=hk10.cell 10
   simp only [fQ,fP] at b0 b1 b2 b3 b4 b5 b6 b7 b8 b9 b10
   go_wp2_with fail
   go_ret2
   refine⟨_,_,0,_,HEnd.out _ (by omega) (by omega) (by omega),rfl,?_,HT10.out.below ((ak _ w10).alloc (au _) _),HCh10.out.alloc _⟩
   exact DI w10 _ hs10 rfl
theorem KE {B R g cap:Nat}{S:Tr}{fv:Value}{w:World}{K d}(h:fZ B R S (.slice (some ⟨g,0,none⟩) S.slots.length cap) fv w)(hL:Lk S K d)(i:Nat)(n:Nd)(hi:S.at i=some n)(hk:n.kind=4)(hl:n.data.length≤1048576)
  (ix cnt:Int)(h0:-1000≤ix)(h1:ix≤1000)(h2:-2000000≤cnt)(h3:cnt≤2000000)(s:List UInt8)(hs:s.length≤100000)(hT:Laid w) :
  Calls Tryz.prog 19 #[.pointer (some ⟨R,0,none⟩),.int .i64 (S.hd i),.int .i64 ix,.int .i64 cnt,dA s] w fun e w'=>∃S' v er l,uJ S i n ix cnt s S' v er l∧e=.returned (.tuple #[v,.int .i64 er]) ∧
   sG w' w.heap.size v l∧fZ B R S' (.slice (some ⟨g,0,none⟩) S'.slots.length cap) fv w'∧dU (fun k=>k=g) w w':=by
 have HA:=ae (bV h (S.hd i) (hd_ok hL hi).1 (fV hL hi))
 have HC:=ae (fun wx (hb:Below w.heap.size w wx)=>bK (h.below hb) hi 0 (by omega))
 have HD:=ae (fun wx (hb:Below w.heap.size w wx)=>bK (h.below hb) hi 3 (by omega))
 have HF:=ae (fun wx (hb:Below w.heap.size w wx)=>iI (h.below hb) (i*10+1+3))
 simp only [jd,fQ,fP] at HC HD
 simp only [hk] at HC
 have HTx:=ae h
 have Hi:=ae hi
 have HLn:=ae (fun wx=>zC n.data wx (by omega))
 have hrc:=xC n.data
 have HRp:=ae (fun wx (hb:Below w.heap.size w wx)=>nT s wx (by omega) (hT.below hb))
 have hfl:=mO s
 have HSl:=ae (fun a b wx (hb:Below w.heap.size w wx)=>Fv n.data a b wx (by omega) (hT.below hb))
 have hsl:=xR n.data
 have HLn2:=ae (fun wx=>zC (fix s) wx (by omega))
 unfold dA at *
 have HKd:=ae (show n.kind=3∨n.kind=4 from by omega)
 have HEnd:=ae (fun(v:Value) (h4:0≤ix) (h5:ix≤(Lib.runeCount ⟨n.data.toArray⟩:Int)) (h6:0≤cnt)=>uJ.yes (S:=S) (i:=i) (n:=n) (s:=s) v HKd.out h4 h5 h6)
 have HRng:=ae (fun(h4:ix < 0∨(Lib.runeCount ⟨n.data.toArray⟩:Int) < ix∨cnt < 0)=>uJ.rng (S:=S) (i:=i) (s:=s) HKd.out h4)
 have HLong:=ae (fun(h4:1048576 < (Ap n.data ix cnt s).length)=>uJ.long (S:=S) (i:=i) HKd.out h4)
 unfold Ap at HEnd HLong
 generalize uJ S i n ix cnt s=RX at *
 generalize (Lib.runeCount ⟨n.data.toArray⟩)=rc at *
 generalize (Lib.runeCount ⟨(fix s).toArray⟩)=rc2 at *
 generalize fix s=s' at *
 clear h hL hi hT hk
 go_enter Tryz.func19,Tryz.ntmps19
 go_wp2_with fail
 refine HA.out.mono ?_
 rintro e w1 ⟨rfl,hb1⟩
 have c0:=HC.out _ hb1
 have c3:=HD.out _ hb1
 go_wp2_with fail
 refine(HLn.out _).mono ?_
 rintro e w2 ⟨rfl,hb2⟩
 have hB2:=aV hb1 hb2
 clear c0 c3
 by_cases hneg:ix < 0
 ·have e0:decide (ix < 0)=true:=by simpa using hneg
  go_wp2_with fail
  go_ret2
  exact⟨S,_,2,[],HRng.out (.inl hneg),rfl,aG _ _ _ _,HTx.out.below hB2,dU.of_below hB2⟩
 have e0:decide (ix < 0)=false:=by simpa using hneg
 by_cases hrg:(rc:Int) < ix
 ·have e1:decide ((rc:Int) < ix)=true:=by simpa using hrg
  go_wp2_with fail
  go_ret2
  exact⟨S,_,2,[],HRng.out (.inr (.inl hrg)),rfl,aG _ _ _ _,HTx.out.below hB2,dU.of_below hB2⟩
 ·have e1:decide ((rc:Int) < ix)=false:=by simpa using hrg
  by_cases hcn:cnt < 0
  ·have e2:decide (cnt < 0)=true:=by simpa using hcn
   go_wp2_with fail
   go_ret2
   exact⟨S,_,2,[],HRng.out (.inr (.inr hcn)),rfl,aG _ _ _ _,HTx.out.below hB2,dU.of_below hB2⟩
  have e2:decide (cnt < 0)=false:=by simpa using hcn
  go_wp2_with fail
  refine(HRp.out _ hB2).mono ?_
  rintro e w3 ⟨rfl,hb3⟩
  have hB3:=aV hB2 hb3
  have g3:g < w3.heap.size:=aO (HTx.out.slots.lt g rfl).2 hB3.size
  have c3:=HD.out _ hB3
  have x3:∀x:dS (jc w3),x.w.cell? ⟨g,i*10+1+3,none⟩=some (.string ⟨n.data.toArray⟩):=fun x=>((oK x.h).1 _ _ g3).trans c3
  have hne:=gI w3
  go_upto_region 11 with fail
  obtain⟨c1,hcnt⟩:∃c1,c1=min cnt ((rc:Int) - ix):=⟨_,rfl⟩
  rw [← hcnt]
  rw [← hcnt] at HEnd HLong
  have hc0:0≤c1∧c1≤(rc:Int) - ix:=by omega
  clear hcnt
  have hl1:=hsl 0 ix
  have hl2:=hsl (ix+c1) (rc:Int)
  generalize ht1:oC n.data 0 ix=t1 at *
  generalize ht2:oC n.data (ix+c1) (rc:Int)=t2 at *
  refine oP (fun k=>if k=0 then .string ⟨t1.toArray⟩ else .string ⟨t2.toArray⟩) 18 (by kernel_rfl) (by kernel_rfl) ?_
  simp only [mD,mr,l9,lZ]
  repeat (first
   | (refine aN (by rfl) (by rfl) (fun K hK=>?_);go_big_quiet_step (fail);refine az ?_;refine hK.out _ ?_;clear hK K)
   | (refine aK (by rfl) ?_;simp only [Act.put,dL,dK,dJ]))
  refine dM (.string ⟨t1.toArray⟩) rfl (by rfl) (by rfl) (fun w=>by go_simp;exact⟨rfl,rfl⟩) ?_ ?_
  ·intro X wx hx
   refine(HSl.out 0 ix _ (hB3.trans (hx.mono hB3.size))).mono ?_
   rintro e wy ⟨rfl,hb⟩
   exact⟨by rw [ht1],jw hx (hb.mono hx.size)⟩
  simp only [Act.put,dL,dK,dJ]
  repeat (first
   | (refine aN (by rfl) (by rfl) (fun K hK=>?_);go_big_quiet_step (fail);refine az ?_;refine hK.out _ ?_;clear hK K)
   | (refine aK (by rfl) ?_;simp only [Act.put,dL,dK,dJ]))
  refine dM (.string ⟨t2.toArray⟩) rfl (by rfl) (by rfl) (fun w=>by go_simp;exact⟨rfl,rfl⟩) ?_ ?_
  ·intro X wx hx
   refine(HSl.out (ix+c1) (rc:Int) _ (hB3.trans (hx.mono hB3.size))).mono ?_
   rintro e wy ⟨rfl,hb⟩
   exact⟨by rw [ht2],jw hx (hb.mono hx.size)⟩
  simp only [Act.put,dL,dK,dJ]
  repeat (first
   | (refine aN (by rfl) (by rfl) (fun K hK=>?_);go_big_quiet_step (fail);refine az ?_;refine hK.out _ ?_;clear hK K)
   | (refine aK (by rfl) ?_;simp only [Act.put,dL,dK,dJ]))
  refine eH ?_
  intro w5 h5
  rw [pK,pK]
  generalize hdat:t1 ++ s' ++ t2=dat at *
  have hdl:dat.length≤20000000:=by rw [← hdat,aA,aA];omega
  have hsz:(⟨dat.toArray⟩:ByteArray).size=dat.length:=by show dat.toArray.size=_;simp
  have HLg:=ae (fun wx=>lW ⟨dat.toArray⟩ (by rw [hsz];omega) wx)
  rw [hsz] at HLg
  have hB5:=aV hB3 h5
  clear hne x3 ht1 ht2 hdat
  by_cases hlong:1048576 < dat.length
  ·rw [dZ hlong] at HLg
   go_wp2_with fail
   refine(HLg.out _).mono ?_
   rintro e w6 ⟨rfl,hw⟩
   rw [hw]
   clear hw
   go_wp2_with fail
   go_ret2
   exact⟨S,_,5,[],HLong.out hlong,rfl,aG _ _ _ _,HTx.out.below hB5,dU.of_below hB5⟩
  ·rw [eP hlong] at HLg
   go_wp2_with fail
   refine(HLg.out _).mono ?_
   rintro e w6 ⟨rfl,hw⟩
   rw [hw]
   clear hw
   have g5:g < w5.heap.size:=aO (HTx.out.slots.lt g rfl).2 hB5.size
   have c5:=HD.out _ hB5
   have x5:∀x:dS (lC w5.heap.size w5 (fun _=>[])),x.w.cell? ⟨g,i*10+1+3,none⟩=some (.string ⟨n.data.toArray⟩):=fun x=>by
    obtain⟨k,X,hx⟩:=x.h
    exact((oK hx.below).1 _ _ g5).trans c5
   have hne':Nonempty (dS (lC w5.heap.size w5 (fun _=>[]))):=⟨⟨_,0,[],All.start w5⟩⟩
   go_upto_region 14 with fail
   refine yX w5.heap.size w5 (fun _=>[]) (fun _=>.int .i64 (rc2:Int)) (fun _ r=>.pointer (some ⟨r,0,none⟩)) (fun _=>[.int .i64 0,.int .i64 0,.int .i64 0,.int .i64 0,.int .i64 0,.int .i64 0,.string ⟨#[]⟩,.string ⟨#[]⟩,.bool false,.int .i64 0,.int .i64 0]) (fun _=>41) 11 (by kernel_rfl) (by kernel_rfl) (All.start w5) ?_
   simp only [mD,mr,l9,lZ]
   repeat (first
    | (refine aN (by rfl) (by rfl) (fun K hK=>?_);go_big_quiet_step (fail);refine az ?_;refine hK.out _ ?_;clear hK K)
    | (refine aK (by rfl) ?_;simp only [Act.put,dL,dK,dJ]))
   refine dM (.int .i64 (rc2:Int)) rfl (by rfl) (by rfl) (fun w=>by go_simp;exact⟨rfl,rfl⟩) ?_ ?_
   ·intro X wx hx
    refine(HLn2.out _).mono ?_
    rintro e wy ⟨rfl,hb⟩
    exact⟨rfl,All.still hx hb⟩
   simp only [Act.put,dL,dK,dJ]
   repeat (first
    | (refine aN (by rfl) (by rfl) (fun K hK=>?_);go_big_quiet_step (fail);refine az ?_;refine hK.out _ ?_;clear hK K)
    | (refine aK (by rfl) ?_;simp only [Act.put,dL,dK,dJ]))
   refine rY (fun r=>.pointer (some ⟨r,0,none⟩)) [.int .i64 0,.int .i64 0,.int .i64 0,.int .i64 0,.int .i64 0,.int .i64 0,.string ⟨#[]⟩,.string ⟨#[]⟩,.bool false,.int .i64 0,.int .i64 0] 41 rfl rfl rfl (by rfl) (by rfl) (fun w=>by go_simp) ?_
   intro r
   simp only [Act.put,dL,dK,dJ]
   refine eH ?_
   intro w7 hA7
   simp only [List.cons_append,List.nil_append,aT] at hA7
   have k7:dD w7 r (recC 0 0 0 0 0 0 [] [] false 0 0) 41:=hA7.head
   have hr:w5.heap.size≤r:=hA7.base _ (List.Mem.head _) r rfl
   have hB7:Below w5.heap.size w5 w7:=hA7.below
   obtain⟨⟨q0,q1,q2,q3,q4,q5,q6,q7,q8,q9,q10⟩,zf⟩:=qK k7
   clear hne' x5 c5 hA7
   go_upto_region 15 with fail
   refine GR (G:=fun wx=>Code.wp _ _ _ _ wx) k7 _ _ _ _ _ _ _ _ _ _ _ ?_
   intro w8 k8 hch8
   clear q0 q1 q2 q3 q4 q5 q6 q7 q8 q9 q10 zf
   have hB8:Below w.heap.size w w8:=(hB5.trans (hB7.mono hB5.size)).trans (hch8.below (aQ hB5.size hB7.size) (fun k e=>by subst e;exact aQ hB5.size hr))
   have c8:=HD.out _ hB8
   have z8:=HF.out _ hB8
   have HK8:=ae k8
   clear hch8 k7 k8
   go_upto_region 16 with fail
   have hT10:=(HTx.out.below hB8).rX (n':={ n with data:=dat }) Hi.out 3 (.string ⟨dat.toArray⟩) (by omega) rfl rfl rfl
   have hch10:dU (fun k=>k=g) w (w8.setCell ⟨g,i*10+1+3,none⟩ (.string ⟨dat.toArray⟩)):=(dU.of_below (F:=fun k=>k=g) hB8).setCell ⟨g,i*10+1+3,none⟩ (fun _=>(rfl:g=g)) _
   have hk10:=HK8.out.setOther ⟨g,i*10+1+3,none⟩ (by show r≠g;omega) (.string ⟨dat.toArray⟩)
   have hs10:w.heap.size≤(w8.setCell ⟨g,i*10+1+3,none⟩ (.string ⟨dat.toArray⟩)).heap.size:=by simp [World.setCell];exact hB8.size
   have HT10:=ae hT10
   have HCh10:=ae hch10
   clear hT10 hch10 HK8 c8 z8
   generalize w8.setCell ⟨g,i*10+1+3,none⟩ (.string ⟨dat.toArray⟩)=w10 at *
   have b0:=hk10.cell 0
   have b1:=hk10.cell 1
   have b2:=hk10.cell 2
   have b3:=hk10.cell 3
   have b4:=hk10.cell 4
   have b5:=hk10.cell 5
   have b6:=hk10.cell 6
   have b7:=hk10.cell 7
   have b8:=hk10.cell 8
   have b9:=hk10.cell 9
   have b10:=hk10.cell 10
   simp only [fQ,fP] at b0 b1 b2 b3 b4 b5 b6 b7 b8 b9 b10
   go_wp2_with fail
   go_ret2
   refine⟨_,_,0,_,HEnd.out _ (by omega) (by omega) (by omega),rfl,?_,HT10.out.below ((ak _ w10).alloc (au _) _),HCh10.out.alloc _⟩
   exact DI w10 _ hs10 rfl
theorem NV {B R g cap:Nat}{S:Tr}{fv:Value}{w:World}{K d}(h:fZ B R S (.slice (some ⟨g,0,none⟩) S.slots.length cap) fv w)(hL:Lk S K d)(i:Nat)(n:Nd)(hi:S.at i=some n)(hk:n.kind=1∨n.kind=2∨n.kind=3∨n.kind=4)(hl:n.data.length≤1048576)
  (ix cnt:Int)(h0:-1000≤ix)(h1:ix≤1000)(h2:-2000000≤cnt)(h3:cnt≤2000000)(s:List UInt8)(hs:s.length≤100000)(hT:Laid w) :
  Calls Tryz.prog 19 #[.pointer (some ⟨R,0,none⟩),.int .i64 (S.hd i),.int .i64 ix,.int .i64 cnt,dA s] w fun e w'=>∃S' v er l,uJ S i n ix cnt s S' v er l∧e=.returned (.tuple #[v,.int .i64 er]) ∧
   sG w' w.heap.size v l∧fZ B R S' (.slice (some ⟨g,0,none⟩) S'.slots.length cap) fv w'∧dU (fun k=>k=g) w w':=by
 by_cases h12:n.kind=1∨n.kind=2
 ·refine(GM h hL i n hi h12 _ _ _).mono ?_
  rintro e w1 ⟨rfl,hb⟩
  exact⟨S,_,10,[],.kind h12,rfl,aG _ _ _ _,h.below hb,dU.of_below hb⟩
 ·by_cases h4:n.kind=3
  ·exact KF h hL i n hi h4 hl ix cnt h0 h1 h2 h3 s hs hT
  ·exact KE h hL i n hi (by omega) hl ix cnt h0 h1 h2 h3 s hs hT
end Go.Proofs.YtfelmdkeaacfeaaGreatDoor.W
end
