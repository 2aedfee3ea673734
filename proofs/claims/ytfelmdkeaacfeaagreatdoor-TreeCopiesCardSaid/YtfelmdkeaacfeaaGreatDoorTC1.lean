/- Texts joined: SamP LwM Sam SamW Cps. -/
import Derived.Test.YtfelmdkeaacfeaaGreatDoorTB41
import Derived.Test.YtfelmdkeaacfeaaGreatDoorTB43
set_option maxRecDepth 100000
set_option maxHeartbeats 40000000
set_option linter.unusedVariables false
set_option linter.unusedSimpArgs false
section
namespace Go.Proofs.YtfelmdkeaacfeaaGreatDoor.W
open Go.RowKit
def all2 (f:Nat→Nat→Bool):List Nat→List Nat→Bool
 | [],[]=>true
 | x :: xs,y :: ys=>f x y && all2 f xs ys
 | _,_=>false
theorem YG (f:Nat→Nat→Bool):∀(l m:List Nat),l.length≠m.length→all2 f l m=false
 | [],[],h=>absurd rfl h
 | [],y :: ys,_=>rfl
 | x :: xs,[],_=>rfl
 | x :: xs,y :: ys,h=>by
  show(f x y && all2 f xs ys)=false
  rw [YG f xs ys (by simpa using h),Xv]
theorem Yx (f:Nat→Nat→Bool):∀(l m:List Nat) (j:Nat) (x y:Nat),l[j]? = some x→m[j]? = some y→f x y=false→all2 f l m=false
 | [],m,j,x,y,h,_,_=>by simp at h
 | a :: l,[],j,x,y,_,h,_=>by simp at h
 | a :: l,b :: m,0,x,y,h1,h2,h=>by
  simp at h1 h2;subst h1 h2
  show(f a b && all2 f l m)=false
  rw [h,uM]
 | a :: l,b :: m,j+1,x,y,h1,h2,h=>by
  show(f a b && all2 f l m)=false
  rw [Yx f l m j x y (by simpa using h1) (by simpa using h2) h,Xv]
theorem YB (f:Nat→Nat→Bool):∀(l m:List Nat),l.length=m.length→(∀(j x y:Nat),l[j]? = some x→m[j]? = some y→f x y=true)→all2 f l m=true
 | [],[],_,_=>rfl
 | [],y :: ys,h,_=>by simp at h
 | x :: xs,[],h,_=>by simp at h
 | x :: xs,y :: ys,h,k=>by
  show(f x y && all2 f xs ys)=true
  rw [k 0 x y rfl rfl,wY]
  exact YB f xs ys (by simpa using h) (fun j a b h1 h2=>k (j+1) a b (by simpa using h1) (by simpa using h2))
def Yn (n m:Nd):Bool:=n.kind == m.kind && (n.name == m.name && (n.data == m.data && n.attrs == m.attrs))
def sameB (S S2:Tr)(K K2:Nat→List Nat):Nat→Nat→Nat→Bool
 | 0,a,b=>(match S.at a,S2.at b with | some n,some m=>Yn n m | _,_=>false) && all2 (fun _ _=>true) (K a) (K2 b)
 | f+1,a,b=>(match S.at a,S2.at b with | some n,some m=>Yn n m | _,_=>false) && all2 (sameB S S2 K K2 f) (K a) (K2 b)
theorem YF {B:Nat}{w:World}{v:Value}{l:List jR}(h:jA B w v l){i:Nat}{p:jR}(hp:l[i]? = some p):∃g cap,v=.slice (some ⟨g,0,none⟩) l.length cap∧g < w.heap.size∧w.cell? ⟨g,i*2,none⟩=some (.string ⟨p.1.toArray⟩)∧w.cell? ⟨g,i*2+1,none⟩=some (.string ⟨p.2.toArray⟩):=by
 obtain⟨a,c,e,h'⟩:=h
 rcases h' with rfl | ⟨g,cur,rfl,_,hh,hc⟩
 ·simp at hp
 ·obtain⟨h1,h2⟩:=hc i p hp
  refine⟨g,c,e,gp hh,?_,?_⟩
  ·rw [iQ hh,uT];exact h1
  ·rw [iQ hh,uT];exact h2
def Y1 (w:World)(l:List jR)(m:List jR)(iv:Value)(wr:World):Prop:=∃k n:Nat,k≤l.length∧l.take k=m.take k∧iv=.int .i64 (k:Int)∧wr=w.drewN n
theorem YI {B B2:Nat}{w:World}{v v2:Value}{l m:List jR}(h:jA B w v l)(h2:jA B2 w v2 m)(hl:l.length≤1000)(hm:m.length≤1000) :
  Calls Tryz.prog 77 #[v,v2] w fun e w'=>e=.returned (.bool (l == m))∧∃n,w'=w.drewN n:=by
 have H1:=ae h
 have H2:=ae h2
 obtain⟨a1,c1,rfl,_⟩:=h
 obtain⟨a2,c2,rfl,_⟩:=h2
 by_cases hlen:l.length=m.length
 ·rw [← hlen] at H2 ⊢
  have hd:decide ((l.length:Int)=(l.length:Int))=true:=by simp
  go_enter Tryz.func77,Tryz.ntmps77
  go_wp2_with fail
  go_loopw [13] (fun iv wr=>Y1 w l m iv wr) (fun iv _=>l.length - (intOf iv).toNat)
  case atStart=>exact⟨0,0,aZ _,by simp,rfl,rfl⟩
  case round =>
   obtain⟨k,q,hk,htk,rfl,rfl⟩:=hrel
   by_cases hkl:k < l.length
   ·obtain⟨x,hx⟩:∃x,l[k]? = some x:=⟨_,ay hkl⟩
    obtain⟨y,hy⟩:∃y,m[k]? = some y:=⟨_,ay (by omega)⟩
    obtain⟨g1,k1,he,qlt,q0,q1⟩:=YF H1.out hx
    simp only [bD,je] at he
    obtain⟨rfl,rfl⟩:=he
    obtain⟨g2,k2,he,plt,p0,p1⟩:=YF H2.out hy
    rw [← hlen] at he
    simp only [bD,je] at he
    obtain⟨rfl,rfl⟩:=he
    obtain⟨x1,x2⟩:=x
    obtain⟨y1,y2⟩:=y
    simp only at q0 q1 p0 p1
    by_cases hxy:(x1,x2)=(y1,y2)
    ·have HT:=ae (show l.take (k+1)=m.take (k+1) by rw [fJ,fJ,htk,hx,hy,hxy])
     cases hxy
     clear hx hy htk
     generalize (⟨x1.toArray⟩:ByteArray)=s1 at *
     generalize (⟨x2.toArray⟩:ByteArray)=s2 at *
     go_wp2_with fail
     go_quiet (fail)
     go_wp2_with fail
     go_roundw
     case rel=>exact⟨k+1,_,by omega,HT.out,by go_num,rfl⟩
     case measure=>simp [intOf];omega
    ·have HNe:=ae (show(l == m)=false from by
      rw [eY]
      rintro rfl
      rw [hx] at hy;cases hy;exact hxy rfl)
     by_cases e1:x1=y1
     ·subst e1
      have hs:=QJ (show x2≠y2 from fun e=>hxy (by rw [e]))
      clear hx hy htk hxy
      generalize (⟨x1.toArray⟩:ByteArray)=s1 at *
      generalize (⟨x2.toArray⟩:ByteArray)=s2 at *
      generalize (⟨y2.toArray⟩:ByteArray)=t2 at *
      go_wp2_with fail
      go_quiet (fail)
      go_wp2_with fail
      go_ret
      exact⟨by rw [HNe.out];rfl,_,World.drewN_drewN _ _ _⟩
     ·have hs:=QJ e1
      clear hx hy htk hxy
      generalize (⟨x1.toArray⟩:ByteArray)=s1 at *
      generalize (⟨x2.toArray⟩:ByteArray)=s2 at *
      generalize (⟨y2.toArray⟩:ByteArray)=t2 at *
      generalize (⟨y1.toArray⟩:ByteArray)=t1 at *
      go_wp2_with fail
      go_quiet (fail)
      go_wp2_with fail
      go_ret
      exact⟨by rw [HNe.out];rfl,_,World.drewN_drewN _ _ _⟩
   ·obtain rfl:k=l.length:=by omega
    have HE:=ae (show(l == m)=true from by
     rw [WT]
     rw [dE,hlen,dE] at htk
     exact htk)
    clear htk
    go_wp2_with fail
    go_ret
    exact⟨by rw [HE.out];rfl,_,rfl⟩
 ·have hne:(l == m)=false:=by
   rw [eY]
   rintro rfl
   exact hlen rfl
  have HE:=ae hne
  clear hne
  have hd:decide ((l.length:Int)=(m.length:Int))=false:=by simp;omega
  have hd2:((l.length:Int) == (m.length:Int))=false:=by simp;omega
  clear H1 H2
  go_enter Tryz.func77,Tryz.ntmps77
  go_wp2_with fail
  go_ret
  exact⟨by rw [HE.out];rfl,0,rfl⟩
end Go.Proofs.YtfelmdkeaacfeaaGreatDoor.W
end
section
namespace Go.Proofs.YtfelmdkeaacfeaaGreatDoor.W
open Go.RowKit
theorem UW.below {w w':World}{A:Option Addr}{n:Nat}{f:Nat→ou}(h:UW w A n f)(hb:Below w.heap.size w w'):UW w' A n f:=fun hn=>by
 obtain⟨b,off,e,hl,hc⟩:=h hn
 refine⟨b,off,e,aO hl hb.size,fun j hj=>?_⟩
 obtain⟨h0,h1,h2,h3,h4,h5,h6,h7⟩:=hc j hj
 exact⟨aU hb h0,aU hb h1,aU hb h2,aU hb h3,aU hb h4,aU hb h5,aU hb h6,aU hb h7⟩
theorem ou.In.ok {o:ou}(h:o.In)(h1:o.s.length≤40∧o.t.length≤40):o.Ok:=⟨h.k,h.a,h.b,h.c,h1.1,h1.2,h.n,h.kk⟩
end Go.Proofs.YtfelmdkeaacfeaaGreatDoor.W
end
section
namespace Go.Proofs.YtfelmdkeaacfeaaGreatDoor.W
open Go.RowKit
def Y2 (w:World)(B1 B2:Nat)(f:Nat→Nat→Bool)(la lb:List Nat)(ha hb:Nat→Int)(v1 v2:Value)(iv:Value)(wr:World):Prop :=
 ∃k:Nat,k≤la.length∧iv=.int .i64 (k:Int)∧(∀(j x y:Nat),j < k→la[j]? = some x→lb[j]? = some y→f x y=true)∧wr.ownsRow B1 3 1 v1 la.length (hC (la.map ha))∧wr.ownsRow B2 3 1 v2 lb.length (hC (lb.map hb))∧Below w.heap.size w wr
theorem Yz {B1 B2:Nat}{w:World}(f:Nat→Nat→Bool)(la lb:List Nat)(ha hb:Nat→Int){v1 v2:Value}(b4 b6:Nat)(h1:w.ownsRow B1 3 1 v1 la.length (hC (la.map ha)))(h2:w.ownsRow B2 3 1 v2 lb.length (hC (lb.map hb)))(hl:la.length≤1000000)(hl2:lb.length≤1000000)
  (hf:∀(j x y:Nat),la[j]? = some x→lb[j]? = some y→∀wx,Below w.heap.size w wx→Calls Tryz.prog 79 #[.int .i64 (ha x),.int .i64 (hb y),.pointer (some ⟨b4,0,none⟩),.pointer (some ⟨b6,0,none⟩)] wx fun e w'=>e=.returned (.bool (f x y))∧Below wx.heap.size wx w') :
  Calls Tryz.prog 78 #[v1,v2,.func (.func 79) #[] #[.pointer (some ⟨b4,0,none⟩),.pointer (some ⟨b6,0,none⟩)]] w fun e w'=>e=.returned (.bool (all2 f la lb))∧Below w.heap.size w w':=by
 obtain⟨a1,c1,rfl⟩:=bP h1
 obtain⟨a2,c2,rfl⟩:=bP h2
 have H1:=ae h1
 have H2:=ae h2
 have HF:=ae hf
 clear h1 h2 hf
 by_cases hlen:la.length=lb.length
 ·have HL:=ae hlen
  go_enter Tryz.func78,Tryz.ntmps78
  go_wp2_with fail
  go_loopw [17] (fun iv wr=>Y2 w B1 B2 f la lb ha hb (.slice a1 la.length c1) (.slice a2 lb.length c2) iv wr) (fun iv _=>la.length - (intOf iv).toNat)
  case atStart=>exact⟨0,aZ _,rfl,fun j x y h=>absurd h (by omega),H1.out,H2.out,ak _ _⟩
  case round =>
   obtain⟨k,hk,rfl,htr,ho1,ho2,hB⟩:=hrel
   by_cases hkl:k < la.length
   ·obtain⟨x,hx⟩:∃x,la[k]? = some x:=⟨_,ay hkl⟩
    obtain⟨y,hy⟩:∃y,lb[k]? = some y:=⟨_,ay (by omega)⟩
    obtain⟨g1,k1,he,q1⟩:=pO ho1 (x:=ha x) (j:=k) (by rw [bI,hx];rfl)
    simp only [bD,je] at he
    obtain⟨rfl,rfl⟩:=he
    obtain⟨g2,k2,he,q2⟩:=pO ho2 (x:=hb y) (j:=k) (by rw [bI,hy];rfl)
    simp only [bD,je] at he
    obtain⟨rfl,rfl⟩:=he
    have z1:=iG wr ⟨g1,k,none⟩ q1
    have z2:=iG wr ⟨g2,k,none⟩ q2
    have HC:=ae (HF.out k x y hx hy wr hB)
    have HX:=ae (show f x y=false→all2 f la lb=false from Yx f la lb k x y hx hy)
    have HY:=ae (show f x y=true→∀(j a b:Nat),j < k+1→la[j]? = some a→lb[j]? = some b→f a b=true from fun hh j a b hj h1 h2=>by
     by_cases e:j=k
     ·subst e;rw [hx] at h1;rw [hy] at h2;cases h1;cases h2;exact hh
     ·exact htr j a b (by omega) h1 h2)
    have HO1:=ae ho1
    have HO2:=ae ho2
    have HB:=ae hB
    have hlb:k < lb.length:=by omega
    clear hx hy htr ho1 ho2 hB hlen
    generalize ha x=hx1 at *
    generalize hb y=hy1 at *
    cases hfx:f x y with
    | false =>
     have HX:=HX.out hfx
     rw [hfx] at HC
     have HX:=ae HX
     go_wp2_with fail
     refine HC.out.mono ?_
     rintro e w2 ⟨rfl,hb2⟩
     have HB2:=ae (aV HB.out hb2)
     have HE:=HX
     clear hb2
     go_wp2_with fail
     go_ret
     exact⟨by rw [HE.out];rfl,HB2.out⟩
    | true =>
     have HY:=HY.out hfx
     rw [hfx] at HC
     have HY:=ae HY
     go_wp2_with fail
     refine HC.out.mono ?_
     rintro e w2 ⟨rfl,hb2⟩
     have HB2:=ae (aV HB.out hb2)
     have HR1:=ae (fH HO1.out hb2)
     have HR2:=ae (fH HO2.out hb2)
     have HE:=HY
     clear hb2
     go_wp2_with fail
     exact⟨⟨k+1,by omega,by go_num,HE.out,HR1.out,HR2.out,HB2.out⟩,by simp [intOf];omega⟩
   ·obtain rfl:k=la.length:=by omega
    have HE:=ae (YB f la lb HL.out (fun j x y h1 h2=>htr j x y (ai.1 h1).1 h1 h2))
    have HB:=ae hB
    clear ho1 ho2 hB htr
    go_wp2_with fail
    go_ret
    exact⟨by rw [HE.out];rfl,HB.out⟩
 ·have HE:=ae (YG f la lb hlen)
  have hd:decide ((la.length:Int)=(lb.length:Int))=false:=by simp;omega
  have hd2:((la.length:Int) == (lb.length:Int))=false:=by simp;omega
  clear H1 H2 HF
  go_enter Tryz.func78,Tryz.ntmps78
  go_wp2_with fail
  go_ret
  exact⟨by rw [HE.out];rfl,ak _ _⟩
def Yo (S S2:Tr)(K K2:Nat→List Nat)(f a b:Nat)(wx:World)(e:Ending)(w':World):Prop:=e=.returned (.bool (sameB S S2 K K2 f a b))∧Below wx.heap.size wx w'
theorem YL {S S2:Tr}{K K2:Nat→List Nat}{w:World}{R R2 b4 b6 f a b:Nat}{x y:Int}(h4:dD w b4 [.pointer (some ⟨R,0,none⟩)] 29)(h6:dD w b6 [.pointer (some ⟨R2,0,none⟩)] 29)
  (HS:Calls Tryz.prog 31 #[.pointer (some ⟨R,0,none⟩),.int .i64 x,.pointer (some ⟨R2,0,none⟩),.int .i64 y] w (Yo S S2 K K2 f a b w)) :
  Calls Tryz.prog 79 #[.int .i64 x,.int .i64 y,.pointer (some ⟨b4,0,none⟩),.pointer (some ⟨b6,0,none⟩)] w (Yo S S2 K K2 f a b w):=by
 have c4:=h4.cell 0
 have c6:=h6.cell 0
 simp only [List.getElem?_cons_zero] at c4 c6
 have H:=ae HS
 clear HS h4 h6
 go_enter Tryz.func79,Tryz.ntmps79
 go_wp2_with fail
 refine H.out.mono ?_
 rintro e w2 ⟨rfl,hb⟩
 go_wp2_with fail
 go_ret
 exact⟨rfl,hb⟩
end Go.Proofs.YtfelmdkeaacfeaaGreatDoor.W
end
section
namespace Go.Proofs.YtfelmdkeaacfeaaGreatDoor.W
open Go.RowKit
def YV (W:World)(na nb:Nat)(xa xb:List Value):List Value→World→Prop
 | [v1],w'=>w'.ownsRow W.heap.size 3 1 v1 na xa
 | [v2,v1],w'=>w'.ownsRow W.heap.size 3 1 v1 na xa∧w'.ownsRow W.heap.size 3 1 v2 nb xb
 | _,_=>True
def Y0 (na nb:Nat)(b:Bool):List Value→Value→Prop
 | [],v=>∃a c,v=.slice a na c
 | [_],v=>∃a c,v=.slice a nb c
 | _,v=>v=.bool b
theorem YV.below {W:World}{na nb:Nat}{xa xb:List Value}(k:List Value)(w1 w2:World)(h:YV W na nb xa xb k w1)(hb:Below w1.heap.size w1 w2):YV W na nb xa xb k w2:=by
 match k,h with
 | [],_=>trivial
 | [v1],h=>exact fH h hb
 | [v2,v1],h=>exact⟨fH h.1 hb,fH h.2 hb⟩
 | _ :: _ :: _ :: _,_=>trivial
def YJ (B R B2 R2:Nat)(S S2:Tr)(sv fv sv2 fv2:Value)(K K2:Nat→List Nat)(d:Nat→Nat)(f:Nat):Prop :=
 ∀(w:World),fZ B R S sv fv w→fZ B2 R2 S2 sv2 fv2 w→∀(a b:Nat) (na nb:Nd),S.at a=some na→S2.at b=some nb→128 - d a=f →
  Calls Tryz.prog 31 #[.pointer (some ⟨R,0,none⟩),.int .i64 (S.hd a),.pointer (some ⟨R2,0,none⟩),.int .i64 (S2.hd b)] w (Yo S S2 K K2 f a b w)
theorem YO {S S2:Tr}{K K2:Nat→List Nat}{f a b:Nat}{n m:Nd}(ha:S.at a=some n)(hb:S2.at b=some m)(g:Nat→Nat→Bool)(hg:∀x∈K a,∀y,f≠0→g x y=sameB S S2 K K2 (f - 1) x y)(h0:f=0→K a=[]):sameB S S2 K K2 f a b=(Yn n m && all2 g (K a) (K2 b)):=by
 have key:∀(g':Nat→Nat→Bool) (l:List Nat),(∀x∈l,∀y,g x y=g' x y)→∀m:List Nat,all2 g l m=all2 g' l m:=by
  intro g' l
  induction l with
  | nil=>intro _ m;cases m <;> rfl
  | cons x l ih =>
   intro h m
   cases m with
   | nil=>rfl
   | cons y m =>
    show(g x y && all2 g l m)=(g' x y && all2 g' l m)
    rw [h x (by simp) y,ih (fun z hz=>h z (by simp [hz])) m]
 cases f with
 | zero =>
  rw [sameB,ha,hb]
  simp only []
  rw [h0 rfl]
  cases K2 b <;> rfl
 | succ f =>
  rw [sameB,ha,hb]
  simp only []
  rw [key (sameB S S2 K K2 f) (K a) (fun x hx y=>hg x hx y (by omega))]
theorem YA {B R B2 R2:Nat}{S S2:Tr}{sv fv sv2 fv2:Value}{K K2:Nat→List Nat}{d d2:Nat→Nat}(L1:Lk S K d)(L2:Lk S2 K2 d2)(hl1:∀x m,S.at x=some m→m.attrs.length≤1000)(hl2:∀x m,S2.at x=some m→m.attrs.length≤1000)
  (f:Nat)(ih:f≠0→YJ B R B2 R2 S S2 sv fv sv2 fv2 K K2 d (f - 1)):YJ B R B2 R2 S S2 sv fv sv2 fv2 K K2 d f:=by
 intro w h1 h2 a b na' nb' hna hnb hf
 obtain⟨g,cap,rfl⟩:=fO h1 (by have:=iy hna;omega)
 obtain⟨g2,cap2,rfl⟩:=fO h2 (by have:=iy hnb;omega)
 have H1:=ae (fun wx (hb:Below w.heap.size w wx)=>bV (h1.below hb) (S.hd a) (hd_ok L1 hna).1 (fV L1 hna))
 have H2:=ae (fun wx (hb:Below w.heap.size w wx)=>bV (h2.below hb) (S2.hd b) (hd_ok L2 hnb).1 (fV L2 hnb))
 have HA:=ae (fun wx (hb:Below w.heap.size w wx) j (hj:j < 9)=>bK (h1.below hb) hna j hj)
 have HBn:=ae (fun wx (hb:Below w.heap.size w wx) j (hj:j < 9)=>bK (h2.below hb) hnb j hj)
 have HE:=ae (fun wx (hb:Below w.heap.size w wx)=>YI ((h1.below hb).attrs a na' (dN hna)) ((h2.below hb).attrs b nb' (dN hnb)) (hl1 a na' hna) (hl2 b nb' hnb))
 have HK1:=ae (fun wx (hb:Below w.heap.size w wx)=>pV (h1.below hb) L1 a na' hna)
 have HK2:=ae (fun wx (hb:Below w.heap.size w wx)=>pV (h2.below hb) L2 b nb' hnb)
 have hkl1:=lX L1 a
 have hkl2:=lX L2 b
 obtain⟨va,vc,hva,_⟩:=h1.attrs a na' (dN hna)
 obtain⟨vb,vd,hvb,_⟩:=h2.attrs b nb' (dN hnb)
 rw [hva,hvb] at HE
 have HIH:=ae (show ∀wx,Below w.heap.size w wx→∀x∈K a,∀y∈K2 b,Calls Tryz.prog 31 #[.pointer (some ⟨R,0,none⟩),.int .i64 (S.hd x),.pointer (some ⟨R2,0,none⟩),.int .i64 (S2.hd y)] wx (Yo S S2 K K2 (f - 1) x y wx) from by
  intro wx hb x hx y hy
  obtain⟨nx,hnx⟩:=aB.1 (L1.kin a x hx).2
  obtain⟨ny,hny⟩:=aB.1 (L2.kin b y hy).2
  have h3:=L1.qc a x hx
  have h4:=L1.low x
  exact ih (by omega) wx (h1.below hb) (h2.below hb) x y nx ny hnx hny (by omega))
 have HR:=ae (YO (K:=K) (K2:=K2) (f:=f) hna hnb (sameB S S2 K K2 (f - 1)) (fun x _ y _=>rfl) (fun h0=>by
  cases e:K a with
  | nil=>rfl
  | cons k t =>
   have h3:=L1.qc a k (by rw [e];simp)
   have h4:=L1.low k
   omega))
 have k4:=dD.new w [.pointer (some ⟨R,0,none⟩)] 29
 have hb1:=(ak w.heap.size w).alloc (au _) (.cells #[.pointer (some ⟨R,0,none⟩)] 29)
 have hgl:=(h1.slots.lt g rfl).2
 have hgl2:=(h2.slots.lt g2 rfl).2
 clear h1 h2 hna hnb ih
 go_enter Tryz.func31,Tryz.ntmps31
 go_upto_region 1 with fail
 have hs1:(w.alloc (.cells #[.pointer (some ⟨R,0,none⟩)] 29)).heap.size=w.heap.size+1:=by simp
 have k6:=dD.new (w.alloc (.cells #[.pointer (some ⟨R,0,none⟩)] 29)) [.pointer (some ⟨R2,0,none⟩)] 29
 have k4':=k4.alloc (.cells #[.pointer (some ⟨R2,0,none⟩)] 29)
 have hb2:=hb1.alloc (by simp) (.cells #[.pointer (some ⟨R2,0,none⟩)] 29)
 rw [hs1] at k6
 generalize ((w.alloc (.cells #[.pointer (some ⟨R,0,none⟩)] 29)).alloc (.cells #[.pointer (some ⟨R2,0,none⟩)] 29))=w1 at *
 have c4:∀x:dS (jc w1),x.w.cell? ⟨w.heap.size,0,none⟩=some (.pointer (some ⟨R,0,none⟩)):=fun x=>(k4'.below x.h).cell 0
 have c6:∀x:dS (jc w1),x.w.cell? ⟨w.heap.size+1,0,none⟩=some (.pointer (some ⟨R2,0,none⟩)):=fun x=>(k6.below x.h).cell 0
 have hne:=gI w1
 have HB2:=ae hb2
 have HQ4:=ae k4'
 have HQ6:=ae k6
 clear k4 k4' k6 hb1 hb2
 refine mW (fun _ _=>True) (fun k v=>v=if k=[] then .pointer (some (na g a)) else .pointer (some (na g2 b))) 8 (by kernel_rfl) (by kernel_rfl) (fun _ _ _ _ _=>trivial) trivial ?_
 simp only [mD,mr,l9,lZ]
 repeat (first
  | (refine RV.aN (by rfl) (by rfl) (fun K hK=>?_);go_big_quiet_step (fail);refine az ?_;refine hK.out _ ?_;clear hK K)
  | (refine RV.aK (by rfl) ?_;simp only [Act.put,dL,dK,dJ]))
 refine RV.dM (by rfl) (by rfl) (fun w=>by go_simp;exact⟨rfl,rfl⟩) (⟨_,rfl⟩) (fun X wx hx=>?_) (fun v hv=>?_)
 ·refine(H1.out _ (aV HB2.out hx.1)).mono ?_
  rintro e wy ⟨rfl,hb⟩
  exact⟨_,rfl,rfl,aV hx.1 hb,trivial⟩
 obtain rfl:v=.pointer (some (na g a)):=by simpa using hv
 simp only [Act.put,dL,dK,dJ]
 repeat (first
  | (refine RV.aN (by rfl) (by rfl) (fun K hK=>?_);go_big_quiet_step (fail);refine az ?_;refine hK.out _ ?_;clear hK K)
  | (refine RV.aK (by rfl) ?_;simp only [Act.put,dL,dK,dJ]))
 refine RV.dM (by rfl) (by rfl) (fun w=>by go_simp;exact⟨rfl,rfl⟩) (⟨_,rfl⟩) (fun X wx hx=>?_) (fun v hv=>?_)
 ·refine(H2.out _ (aV HB2.out hx.1)).mono ?_
  rintro e wy ⟨rfl,hb⟩
  exact⟨_,rfl,by simp,aV hx.1 hb,trivial⟩
 obtain rfl:v=.pointer (some (na g2 b)):=by simpa using hv
 simp only [Act.put,dL,dK,dJ]
 repeat (first
  | (refine RV.aN (by rfl) (by rfl) (fun K hK=>?_);go_big_quiet_step (fail);refine az ?_;refine hK.out _ ?_;clear hK K)
  | (refine RV.aK (by rfl) ?_;simp only [Act.put,dL,dK,dJ]))
 refine RV.eH ?_
 intro w2 hb2 _
 have HB3:=ae (aV HB2.out hb2)
 have HP4:=ae (HQ4.out.below hb2)
 have HP6:=ae (HQ6.out.below hb2)
 have c0:=HA.out _ HB3.out 0 (by omega)
 have c1:=HA.out _ HB3.out 1 (by omega)
 have c2:=HA.out _ HB3.out 2 (by omega)
 have c3:=HA.out _ HB3.out 3 (by omega)
 have e0:=HBn.out _ HB3.out 0 (by omega)
 have e1:=HBn.out _ HB3.out 1 (by omega)
 have e2:=HBn.out _ HB3.out 2 (by omega)
 have e3:=HBn.out _ HB3.out 3 (by omega)
 simp only [jd,fQ,fP,dA,hva,hvb,Nat.add_zero] at c0 c1 c2 c3 e0 e1 e2 e3
 have hl2':=HB3.out.size
 have HEq:=ae (fun wx (hb:Below w2.heap.size w2 wx)=>HE.out _ (aV HB3.out hb))
 clear c4 c6 hne hb2 HQ4 HQ6 H1 H2 HA HBn HE
 unfold na
 go_upto_region 2 with fail
 by_cases e1':na'.kind=nb'.kind
 case neg =>
  have hb1:(na'.kind == nb'.kind)=false:=by simpa using e1'
  have hb2:(na'.kind != nb'.kind)=true:=by simpa using e1'
  have HF:=ae (show sameB S S2 K K2 f a b=false from by rw [HR.out];unfold Yn;rw [hb1];simp)
  clear HR HIH HK1 HK2
  generalize (⟨na'.name.toArray⟩:ByteArray)=s1 at *
  generalize (⟨nb'.name.toArray⟩:ByteArray)=s2 at *
  generalize (⟨na'.data.toArray⟩:ByteArray)=s3 at *
  generalize (⟨nb'.data.toArray⟩:ByteArray)=s4 at *
  have hne:=gI w2
  have x0:=fun(x:dS (jc w2))=>aU x.h c0
  have x1:=fun(x:dS (jc w2))=>aU x.h c1
  have x2:=fun(x:dS (jc w2))=>aU x.h c2
  have x3:=fun(x:dS (jc w2))=>aU x.h c3
  have u0:=fun(x:dS (jc w2))=>aU x.h e0
  have u1:=fun(x:dS (jc w2))=>aU x.h e1
  have u2:=fun(x:dS (jc w2))=>aU x.h e2
  have u3:=fun(x:dS (jc w2))=>aU x.h e3
  clear c0 c1 c2 c3 e0 e1 e2 e3
  refine mW (fun _ _=>True) (fun _ v=>v=.bool (na'.attrs == nb'.attrs)) 51 (by kernel_rfl) (by kernel_rfl) (fun _ _ _ _ _=>trivial) trivial ?_
  simp only [mD,mr,l9,lZ]
  repeat (first
   | (refine RV.aN (by rfl) (by rfl) (fun K hK=>?_);go_big_quiet_step (fail);refine az ?_;refine hK.out _ ?_;clear hK K)
   | (refine RV.aK (by rfl) ?_;simp only [Act.put,dL,dK,dJ]))
  refine RV.eH ?_
  intro w3 hb3 _
  have HB4:=ae (aV HB3.out hb3)
  clear x0 x1 x2 x3 u0 u1 u2 u3 hne
  clear hb3
  go_wp2_with fail
  go_ret
  exact⟨by rw [HF.out];rfl,HB4.out⟩
 rw [e1'] at c0
 by_cases e2':na'.name=nb'.name
 case neg =>
  have hb1:(na'.name == nb'.name)=false:=by simpa using e2'
  have hb2:=QJ e2'
  have HF:=ae (show sameB S S2 K K2 f a b=false from by rw [HR.out];unfold Yn;rw [hb1];simp)
  clear HR HIH HK1 HK2
  generalize (⟨na'.name.toArray⟩:ByteArray)=s1 at *
  generalize (⟨nb'.name.toArray⟩:ByteArray)=s2 at *
  generalize (⟨na'.data.toArray⟩:ByteArray)=s3 at *
  generalize (⟨nb'.data.toArray⟩:ByteArray)=s4 at *
  have hne:=gI w2
  have x0:=fun(x:dS (jc w2))=>aU x.h c0
  have x1:=fun(x:dS (jc w2))=>aU x.h c1
  have x2:=fun(x:dS (jc w2))=>aU x.h c2
  have x3:=fun(x:dS (jc w2))=>aU x.h c3
  have u0:=fun(x:dS (jc w2))=>aU x.h e0
  have u1:=fun(x:dS (jc w2))=>aU x.h e1
  have u2:=fun(x:dS (jc w2))=>aU x.h e2
  have u3:=fun(x:dS (jc w2))=>aU x.h e3
  clear c0 c1 c2 c3 e0 e1 e2 e3
  refine mW (fun _ _=>True) (fun _ v=>v=.bool (na'.attrs == nb'.attrs)) 51 (by kernel_rfl) (by kernel_rfl) (fun _ _ _ _ _=>trivial) trivial ?_
  simp only [mD,mr,l9,lZ]
  repeat (first
   | (refine RV.aN (by rfl) (by rfl) (fun K hK=>?_);go_big_quiet_step (fail);refine az ?_;refine hK.out _ ?_;clear hK K)
   | (refine RV.aK (by rfl) ?_;simp only [Act.put,dL,dK,dJ]))
  refine RV.eH ?_
  intro w3 hb3 _
  have HB4:=ae (aV HB3.out hb3)
  clear x0 x1 x2 x3 u0 u1 u2 u3 hne
  clear hb3
  go_wp2_with fail
  go_ret
  exact⟨by rw [HF.out];rfl,HB4.out⟩
 rw [e2'] at c1
 by_cases e3':na'.data=nb'.data
 case neg =>
  have hb1:(na'.data == nb'.data)=false:=by simpa using e3'
  have hb2:=QJ e3'
  have HF:=ae (show sameB S S2 K K2 f a b=false from by rw [HR.out];unfold Yn;rw [hb1];simp)
  clear HR HIH HK1 HK2
  generalize (⟨nb'.name.toArray⟩:ByteArray)=s2 at *
  generalize (⟨na'.data.toArray⟩:ByteArray)=s3 at *
  generalize (⟨nb'.data.toArray⟩:ByteArray)=s4 at *
  have hne:=gI w2
  have x0:=fun(x:dS (jc w2))=>aU x.h c0
  have x1:=fun(x:dS (jc w2))=>aU x.h c1
  have x2:=fun(x:dS (jc w2))=>aU x.h c2
  have x3:=fun(x:dS (jc w2))=>aU x.h c3
  have u0:=fun(x:dS (jc w2))=>aU x.h e0
  have u1:=fun(x:dS (jc w2))=>aU x.h e1
  have u2:=fun(x:dS (jc w2))=>aU x.h e2
  have u3:=fun(x:dS (jc w2))=>aU x.h e3
  clear c0 c1 c2 c3 e0 e1 e2 e3
  refine mW (fun _ _=>True) (fun _ v=>v=.bool (na'.attrs == nb'.attrs)) 51 (by kernel_rfl) (by kernel_rfl) (fun _ _ _ _ _=>trivial) trivial ?_
  simp only [mD,mr,l9,lZ]
  repeat (first
   | (refine RV.aN (by rfl) (by rfl) (fun K hK=>?_);go_big_quiet_step (fail);refine az ?_;refine hK.out _ ?_;clear hK K)
   | (refine RV.aK (by rfl) ?_;simp only [Act.put,dL,dK,dJ]))
  refine RV.eH ?_
  intro w3 hb3 _
  have HB4:=ae (aV HB3.out hb3)
  clear x0 x1 x2 x3 u0 u1 u2 u3 hne
  clear hb3
  go_wp2_with fail
  go_ret
  exact⟨by rw [HF.out];rfl,HB4.out⟩
 rw [e3'] at c3
 have HF:=ae (show sameB S S2 K K2 f a b=((na'.attrs == nb'.attrs) && all2 (sameB S S2 K K2 (f - 1)) (K a) (K2 b)) from by rw [HR.out];unfold Yn;rw [e1',e2',e3'];simp)
 clear HR
 generalize (⟨nb'.name.toArray⟩:ByteArray)=s2 at *
 generalize (⟨nb'.data.toArray⟩:ByteArray)=s4 at *
 have hne:=gI w2
 have x0:=fun(x:dS (jc w2))=>aU x.h c0
 have x1:=fun(x:dS (jc w2))=>aU x.h c1
 have x2:=fun(x:dS (jc w2))=>aU x.h c2
 have x3:=fun(x:dS (jc w2))=>aU x.h c3
 have u0:=fun(x:dS (jc w2))=>aU x.h e0
 have u1:=fun(x:dS (jc w2))=>aU x.h e1
 have u2:=fun(x:dS (jc w2))=>aU x.h e2
 have u3:=fun(x:dS (jc w2))=>aU x.h e3
 clear c0 c1 c2 c3 e0 e1 e2 e3
 refine mW (fun _ _=>True) (fun _ v=>v=.bool (na'.attrs == nb'.attrs)) 51 (by kernel_rfl) (by kernel_rfl) (fun _ _ _ _ _=>trivial) trivial ?_
 simp only [mD,mr,l9,lZ]
 repeat (first
  | (refine RV.aN (by rfl) (by rfl) (fun K hK=>?_);go_big_quiet_step (fail);refine az ?_;refine hK.out _ ?_;clear hK K)
  | (refine RV.aK (by rfl) ?_;simp only [Act.put,dL,dK,dJ]))
 refine RV.dM (by rfl) (by rfl) (fun w=>by go_simp;exact⟨rfl,rfl⟩) (⟨_,rfl⟩) (fun X wx hx=>?_) (fun v hv=>?_)
 ·refine(HEq.out _ hx.1).mono ?_
  rintro e wy ⟨rfl,nn,hw⟩
  exact⟨_,rfl,rfl,by rw [hw];exact aV hx.1 (Below.drewN (ak _ _) _),trivial⟩
 obtain rfl:v=.bool (na'.attrs == nb'.attrs):=hv
 simp only [Act.put,dL,dK,dJ]
 repeat (first
  | (refine RV.aN (by rfl) (by rfl) (fun K hK=>?_);go_big_quiet_step (fail);refine az ?_;refine hK.out _ ?_;clear hK K)
  | (refine RV.aK (by rfl) ?_;simp only [Act.put,dL,dK,dJ]))
 refine RV.eH ?_
 intro w3 hb3 _
 have HB4:=ae (aV HB3.out hb3)
 clear x0 x1 x2 x3 u0 u1 u2 u3 hne
 have HR4:=ae (HP4.out.below hb3)
 have HR6:=ae (HP6.out.below hb3)
 clear hb3
 clear HB3 HP4 HP6
 cases hat:(na'.attrs == nb'.attrs) with
 | false =>
  rw [hat] at HF
  go_wp2_with fail
  go_ret
  exact⟨by rw [HF.out];rfl,HB4.out⟩
 | true =>
  rw [hat,wY] at HF
  have hne4:=gI w3
  have y4:∀x:dS (jc w3),x.w.cell? ⟨w.heap.size,0,none⟩=some (.pointer (some ⟨R,0,none⟩)):=fun x=>(HR4.out.below x.h).cell 0
  have y6:∀x:dS (jc w3),x.w.cell? ⟨w.heap.size+1,0,none⟩=some (.pointer (some ⟨R2,0,none⟩)):=fun x=>(HR6.out.below x.h).cell 0
  clear hl2' hgl hgl2 hs1
  go_upto_region 4 with fail
  refine mW (YV w3 (K a).length (K2 b).length (hC ((K a).map S.hd)) (hC ((K2 b).map S2.hd))) (Y0 (K a).length (K2 b).length (all2 (sameB S S2 K K2 (f - 1)) (K a) (K2 b))) 9 (by kernel_rfl) (by kernel_rfl) YV.below trivial ?_
  simp only [mD,mr,l9,lZ]
  repeat (first
   | (refine RV.aN (by rfl) (by rfl) (fun K hK=>?_);go_big_quiet_step (fail);refine az ?_;refine hK.out _ ?_;clear hK K)
   | (refine RV.aK (by rfl) ?_;simp only [Act.put,dL,dK,dJ]))
  refine RV.dM (by rfl) (by rfl) (fun w=>by go_simp;exact⟨rfl,rfl⟩) (⟨_,none,0,rfl⟩) (fun X wx hx=>?_) (fun v hv=>?_)
  ·refine(HK1.out _ (aV HB4.out hx.1)).mono ?_
   rintro e wy ⟨v,rfl,ho,hb⟩
   have ho':wy.ownsRow w3.heap.size 3 1 v (K a).length (hC ((K a).map S.hd)):=FK (iD ho (aZ _)) (fun k hk=>aQ hx.1.size (ho.lt k hk).1)
   exact⟨_,rfl,bP ho',aV hx.1 hb,ho'⟩
  obtain⟨a1,c1,rfl⟩:=hv
  simp only [Act.put,dL,dK,dJ]
  repeat (first
   | (refine RV.aN (by rfl) (by rfl) (fun K hK=>?_);go_big_quiet_step (fail);refine az ?_;refine hK.out _ ?_;clear hK K)
   | (refine RV.aK (by rfl) ?_;simp only [Act.put,dL,dK,dJ]))
  refine RV.dM (by rfl) (by rfl) (fun w=>by go_simp;exact⟨rfl,rfl⟩) (⟨_,none,0,rfl⟩) (fun X wx hx=>?_) (fun v hv=>?_)
  ·refine(HK2.out _ (aV HB4.out hx.1)).mono ?_
   rintro e wy ⟨v,rfl,ho,hb⟩
   have ho':wy.ownsRow w3.heap.size 3 1 v (K2 b).length (hC ((K2 b).map S2.hd)):=FK (iD ho (aZ _)) (fun k hk=>aQ hx.1.size (ho.lt k hk).1)
   exact⟨_,rfl,bP ho',aV hx.1 hb,fH hx.2 hb,ho'⟩
  obtain⟨a2,c2,rfl⟩:=hv
  simp only [Act.put,dL,dK,dJ]
  repeat (first
   | (refine RV.aN (by rfl) (by rfl) (fun K hK=>?_);go_big_quiet_step (fail);refine az ?_;refine hK.out _ ?_;clear hK K)
   | (refine RV.aK (by rfl) ?_;simp only [Act.put,dL,dK,dJ]))
  refine RV.dM (by rfl) (by rfl) (fun w=>by go_simp;exact⟨rfl,rfl⟩) (⟨_,rfl⟩) (fun X wx hx=>?_) (fun v hv=>?_)
  ·have hB:=aV HB4.out hx.1
   refine(Yz (sameB S S2 K K2 (f - 1)) (K a) (K2 b) S.hd S2.hd w.heap.size (w.heap.size+1) hx.2.1 hx.2.2 hkl1 hkl2 (fun j x y h1 h2 wz hbz=>?_)).mono ?_
   ·refine YL ((HR4.out.below hx.1).below hbz) ((HR6.out.below hx.1).below hbz) (HIH.out wz (aV hB hbz) x (ah h1) y (ah h2))
   ·rintro e wy ⟨rfl,hb⟩
    exact⟨_,rfl,rfl,aV hx.1 hb,trivial⟩
  obtain rfl:v=.bool (all2 (sameB S S2 K K2 (f - 1)) (K a) (K2 b)):=hv
  simp only [Act.put,dL,dK,dJ]
  repeat (first
   | (refine RV.aN (by rfl) (by rfl) (fun K hK=>?_);go_big_quiet_step (fail);refine az ?_;refine hK.out _ ?_;clear hK K)
   | (refine RV.aK (by rfl) ?_;simp only [Act.put,dL,dK,dJ]))
  refine RV.eH ?_
  intro w4 hb4 _
  have HB5:=ae (aV HB4.out hb4)
  clear y4 y6 hne4 hb4
  go_wp2_with fail
  go_ret
  exact⟨by rw [HF.out];rfl,HB5.out⟩
theorem YD {B R B2 R2:Nat}{S S2:Tr}{sv fv sv2 fv2:Value}{K K2:Nat→List Nat}{d d2:Nat→Nat}(L1:Lk S K d)(L2:Lk S2 K2 d2)(hl1:∀x m,S.at x=some m→m.attrs.length≤1000)(hl2:∀x m,S2.at x=some m→m.attrs.length≤1000):∀f,YJ B R B2 R2 S S2 sv fv sv2 fv2 K K2 d f
 | 0=>YA L1 L2 hl1 hl2 0 (fun h=>absurd rfl h)
 | f+1=>YA L1 L2 hl1 hl2 (f+1) (fun _=>YD L1 L2 hl1 hl2 f)
end Go.Proofs.YtfelmdkeaacfeaaGreatDoor.W
end
section
namespace Go.Proofs.YtfelmdkeaacfeaaGreatDoor.W
open Go.RowKit
theorem Yr {g:Nat→Nat→Bool}{b:Nat→Nat}:∀{l:List Nat},(∀k∈l,g k (b k)=true)→all2 g l (l.map b)=true
 | [],_=>rfl
 | k :: l,h=>by
  show(g k (b k) && all2 g l (l.map b))=true
  rw [h k (by simp),Yr (fun q hq=>h q (by simp [hq]))];rfl
theorem Yy {f g:Nat→Nat→Bool}:∀{l m:List Nat},(∀x∈l,∀y∈m,f x y=g x y)→all2 f l m=all2 g l m
 | [],[],_=>rfl
 | [],_ :: _,_=>rfl
 | _ :: _,[],_=>rfl
 | x :: l,y :: m,h=>by
  show(f x y && all2 f l m)=(g x y && all2 g l m)
  rw [h x (by simp) y (by simp),Yy (fun a ha b hb=>h a (by simp [ha]) b (by simp [hb]))]
theorem Yw {S S':Tr}{K K':Nat→List Nat}(Q:Nat→Prop)(hQ:∀y,Q y→S'.at y=S.at y∧K' y=K y)(hcl:∀y,Q y→∀k∈K y,Q k):∀f x y,Q x→Q y→sameB S' S' K' K' f x y=sameB S S K K f x y:=by
 intro f
 induction f with
 | zero =>
  intro x y hx hy
  unfold sameB
  rw [(hQ x hx).1,(hQ y hy).1,(hQ x hx).2,(hQ y hy).2]
 | succ f ih =>
  intro x y hx hy
  unfold sameB
  rw [(hQ x hx).1,(hQ y hy).1,(hQ x hx).2,(hQ y hy).2,Yy (fun a ha b hb=>ih a b (hcl x hx a ha) (hcl y hy b hb))]
theorem YK {S:Tr}{K:Nat→List Nat}{d:Nat→Nat}{S' K' d' i P r}(C:Cm S K d S' K' d' i K P r)(hc:∀x∈P,∀k∈K x,k∈P):∀(f x:Nat),x∈P→sameB S' S' K' K' f x (r x)=true:=by
 have key:∀x∈P,∃n n',S'.at x=some n∧S'.at (r x)=some n'∧Yn n n'=true∧K' x=K x∧K' (r x)=(K x).map r:=fun x hx=>by
  obtain⟨_,n,n',h1,h2,h3,h4,h5,h6⟩:=C.new x hx
  obtain⟨o1,o2,_⟩:=C.old x (by rw [h1];rfl)
  exact⟨n,n',by rw [o1];exact h1,h2,by unfold Yn;rw [h3,h4,h5,h6];simp,o2,C.kn x hx⟩
 intro f
 induction f with
 | zero =>
  intro x hx
  obtain⟨n,n',a1,a2,a3,a4,a5⟩:=key x hx
  unfold sameB
  rw [a1,a2,a4,a5,Yr (fun _ _=>rfl),Bool.and_true]
  exact a3
 | succ f ih =>
  intro x hx
  obtain⟨n,n',a1,a2,a3,a4,a5⟩:=key x hx
  unfold sameB
  rw [a1,a2,a4,a5,Yr (fun k hk=>ih k (hc x hx k hk)),Bool.and_true]
  exact a3
theorem YH {S:Tr}{K:Nat→List Nat}{d:Nat→Nat}(L:Lk S K d){i:Nat}(hi:(S.at i).isSome=true):∀x∈dR K (128 - d i) i,∀k∈K x,k∈dR K (128 - d i) i:=fun x hx k hk=>by
 have h1:=(mF L _ i x hi hx).1
 exact Gz L (d k) i k rfl (L.kin x k hk).2 hi (by rw [mG L hk,h1,Bool.or_true])
theorem Yu {S:Tr}{K:Nat→List Nat}{d:Nat→Nat}(L:Lk S K d){i:Nat}(hi:(S.at i).isSome=true):i∈dR K (128 - d i) i:=Gz L (d i) i i rfl hi hi (sub_self L hi)
theorem YC {c:Nat}{S:Tr}{K:Nat→List Nat}{d:Nat→Nat}(T:iP c S K d){i:Nat}(hi:(S.at i).isSome=true)(h0:i≠0):∀x∈dR K (128 - d i) i,x≠0:=by
 rintro x hx rfl
 have h1:=mF T.lk _ i 0 hi hx
 rw [nM T.lk h1.2 T.vN] at h1
 exact h0 (by simpa using h1.1)
theorem YN {ex ex':Prop}{E:Nat→Prop}{c x:Nat}{S:Tr}{K:Nat→List Nat}{d:Nat→Nat}{M:List MN}{σ : Nat→Nat}{S' K' d' i P r}(T:CX ex E c x S K d M σ)(hex:ex'→ex)(C:Cm S K d S' K' d' i K P r)(hc:∀x∈P,∀k∈K x,k∈P)(hz:∀x∈P,x≠0) :
  CX ex' (fun y=>E y∨(S.at y=none∧(S'.at y).isSome=true)) c S'.slots.length S' K' d' M σ:=by
 have hl:∀i m,lv M i=some m→(S.at (σ i)).isSome=true:=fun i m hi=>by obtain⟨n,hn,_⟩:=T.tw.node i m hi;rw [hn];rfl
 refine⟨T.ok.copied C (fun x hx k hk=>⟨hc x hx k hk,hk⟩) hz,⟨fun i m hi=>?_,fun i m hi=>?_,T.tw.inj,T.tw.zero,T.tw.par,T.tw.kid,fun i m hi hp q h=>?_,fun x hx=>?_,fun i m hi h=>?_,T.tw.ma,T.tw.few⟩,fun p k hk=>?_,by omega⟩
 ·obtain⟨n,hn,a1,a2,a3,a4⟩:=T.tw.node i m hi
  exact⟨n,by rw [(C.old _ (hl i m hi)).1];exact hn,a1,a2,a3,fun h=>a4 (hex h)⟩
 ·rw [(C.old _ (hl i m hi)).2.1];exact T.tw.kids i m hi
 ·exact T.tw.top i m hi hp q (C.ML hc (hl i m hi) h).2
 ·by_cases e:(S.at x).isSome=true
  ·rcases T.tw.cover x e with h | h
   ·exact .inl (.inl h)
   ·exact .inr h
  ·exact .inl (.inr ⟨by simpa using e,hx⟩)
 ·rcases h with h | ⟨h,_⟩
  ·exact T.tw.off i m hi h
  ·have:=hl i m hi;rw [h] at this;cases this
 ·have hk2:=C.lk.kin p k hk
  by_cases e:(S.at p).isSome=true
  ·rw [(C.old p e).2.1] at hk
   have hk3:=(T.ok.lk.kin p k hk).2
   have e1:S.at p≠none:=fun h=>by rw [h] at e;cases e
   have e2:S.at k≠none:=fun h=>by rw [h] at hk3;cases hk3
   have:=T.cl p k hk
   simp only [e1,e2,uQ,rP]
   exact this
  ·obtain⟨y,hy,rfl,hk3⟩:=C.two hk2.1 e
   rw [hk3] at hk
   obtain⟨q,hq,rfl⟩:=bC.1 hk
   exact⟨fun _=>.inr ⟨(C.new q (hc y hy q hq)).1,hk2.2⟩,fun _=>.inr ⟨(C.new y hy).1,hk2.1⟩⟩
theorem YR {E:Nat→Prop}{S:Tr}{K:Nat→List Nat}{d:Nat→Nat}{S' K' d' i KJ P r}(C:Cm S K d S' K' d' i KJ P r)(h:∀y,E y→(S.at y).isSome=true):∀y,(E y∨(S.at y=none∧(S'.at y).isSome=true))→(S'.at y).isSome=true:=by
 rintro y (hy | ⟨_,hy⟩)
 ·rw [(C.old y (h y hy)).1];exact h y hy
 ·exact hy
theorem uP.len {M:List MN}{D:Nat→Nat}{o:ou}{M':List MN}{rs:List Rc}(h:uP M D o M' rs){N:Nat}(hN:∀f i m,lv M i=some m→(dR (kM M) f i).length≤N)(h1:1≤N):M'.length≤M.length+N:=by
 have l1:∀(L:List MN) p j c,(oU L p j c).length=L.length:=fun L p j c=>by unfold oU;simp
 have l2:∀(L:List MN) p j c,(uH L p j c).length=L.length:=fun L p j c=>by unfold uH;simp
 have l3:∀(L:List MN) l,(pX L l).length=L.length:=fun L l=>by unfold pX;simp
 cases h with
 | make M2 en hk hm=>cases hm <;> (try simp) <;> omega
 | off hk h=>omega
 | ins ma mb M2 rs2 en hk ha hb hc hm =>
  cases hm with
  | no h=>omega
  | other b mb h e hb hp=>omega
  | far h ho hd=>omega
  | ok M3 rs3 h ho hd hm=>cases hm <;> (try simp only [l1,l2]) <;> omega
 | rem ma M2 rs2 en hk ha hm=>cases hm <;> (try simp only [l2]) <;> omega
 | Rk ma M2 rs2 en hk ha hm=>cases hm <;> (try simp) <;> omega
 | Sl ma M2 rs2 en hk ha hm=>cases hm <;> (try simp) <;> omega
 | rep ma M2 rs2 en hk ha hm=>cases hm <;> (try simp) <;> omega
 | cpy ma M2 en hk ha hm =>
  cases hm with
  | doc h=>omega
  | deep h hd =>
   have:=hN (128 - D (o.iA M.length)) _ _ ha
   simp;omega
  | flat h hd=>simp;omega
 | dro ma M2 en hk ha hm=>cases hm <;> (try simp only [l3]) <;> omega
theorem CX.mono {ex:Prop}{E:Nat→Prop}{c c' x:Nat}{S:Tr}{K:Nat→List Nat}{d:Nat→Nat}{M:List MN}{σ : Nat→Nat}(T:CX ex E c x S K d M σ)(h:c≤c'):CX ex E c' x S K d M σ:=⟨T.ok.mono h,T.tw.mono h,T.cl,T.lim⟩
theorem Yv {R:Nat}{S:Tr}{sv fv:Value}{w:World}{K:Nat→List Nat}{d:Nat→Nat}{c:Nat}(h:fZ 0 R S sv fv w)(T:iP c S K d)(i:Nat)(hi:(S.at i).isSome=true)(h0:i≠0)(hs:S.slots.length≤3000) :
  Calls Tryz.prog 23 #[.pointer (some ⟨R,0,none⟩),.int .i64 (S.hd i),.bool true] w fun e w'=>∃S' sv' fv' K' d' r,e=.returned (.tuple #[.int .i64 (S.hd (r i)),.int .i64 0])∧Cm S K d S' K' d' i K (dR K (128 - d i) i) r∧qh R S sv fv w S' sv' fv' w':=by
 obtain⟨n,hn⟩:=aB.1 hi
 refine(Po h T i n hn hs true).mono ?_
 rintro e w' ⟨S',sv',fv',h',er,hC,rfl,hT⟩
 cases hC with
 | doc h=>exact absurd h (T.other i n hn h0)
 | deep h hd S2 K' d' r C=>exact⟨S',sv',fv',K',d',r,rfl,C,hT⟩
 | flat h hd=>cases hd
theorem YE {S:Tr}{K:Nat→List Nat}{d:Nat→Nat}{S' K' d' r}{i:Nat}(L:Lk S K d)(hi:(S.at i).isSome=true)(C:Cm S K d S' K' d' i K (dR K (128 - d i) i) r):S'.slots.length≤2*S.slots.length:=by
 have h1:=CQ (dR K (128 - d i) i).length S.fl
 rw [← C.fl] at h1
 have h2:=oz L (128 - d i) i hi
 have h3:S'.slots.length≤S.slots.length+(dR K (128 - d i) i).length:=h1.2.1
 omega
theorem YT {c:Nat}{S:Tr}{K:Nat→List Nat}{d:Nat→Nat}{S' K' d' r}{i:Nat}(T:iP c S K d)(hi:(S.at i).isSome=true)(h0:i≠0)(C:Cm S K d S' K' d' i K (dR K (128 - d i) i) r):iP c S' K' d'∧(S'.at (r i)).isSome=true∧r i≠0:=by
 have hn1:=C.new i (Yu T.lk hi)
 refine⟨T.copied C (fun x hx k hk=>⟨YH T.lk hi x hx k hk,hk⟩) (YC T hi h0),by obtain⟨_,n,n',_,h,_⟩:=hn1;rw [h];rfl,fun e=>?_⟩
 obtain⟨n,hn,_⟩:=T.doc
 rw [e,hn] at hn1;cases hn1.1
theorem YP {S S':Tr}{σ : Nat→Nat}{M:List MN}(hb:S'.b=S.b)(hs:S'.s=S.s):iZ S' σ M=iZ S σ M:=by
 unfold iZ Tr.hd;rw [hb,hs]
theorem YQ {c:Nat}{S S1 S2:Tr}{K K1 K2:Nat→List Nat}{d d1 d2:Nat→Nat}{M:List MN}{σ r1 r2:Nat→Nat}(T:CX True (fun _=>False) c 0 S K d M σ){i:Nat}(hi:(S.at i).isSome=true)(h0:i≠0)
  (C1:Cm S K d S1 K1 d1 i K (dR K (128 - d i) i) r1)(C2:Cm S1 K1 d1 S2 K2 d2 (r1 i) K1 (dR K1 (128 - d1 (r1 i)) (r1 i)) r2) :
  ∃E:Nat→Prop,CX False E c S2.slots.length S2 K2 d2 M σ∧E (r1 i)∧E (r2 (r1 i))∧(∀y,E y→(S2.at y).isSome=true)∧(∀f,sameB S2 S2 K2 K2 f i (r1 i)=true)∧(∀f,sameB S2 S2 K2 K2 f (r1 i) (r2 (r1 i))=true) ∧
   (∃n,S2.at i=some n)∧(∃n,S2.at (r1 i)=some n∧n.parent=0)∧(∃n,S2.at (r2 (r1 i))=some n)∧mX S2 i (d2 (r1 i)) (some (r1 i))=false:=by
 have L:=T.ok.lk
 have hc1:=YH L hi
 have hz1:=YC T.ok hi h0
 have hs1:=Yu L hi
 have T1:=YN T (fun h=>h) C1 hc1 hz1
 have hn1:=C1.new i hs1
 have hi1:(S1.at (r1 i)).isSome=true:=by obtain⟨_,n,n',_,h,_⟩:=hn1;rw [h];rfl
 have hr1:r1 i≠0:=fun e=>by
  obtain⟨n,hn,_⟩:=T.ok.doc
  rw [e,hn] at hn1;cases hn1.1
 have hc2:=YH T1.ok.lk hi1
 have hz2:=YC T1.ok hi1 hr1
 have hs2:=Yu T1.ok.lk hi1
 have T2:=YN (ex':=False) T1 (fun h=>h.elim) C2 hc2 hz2
 have hn2:=C2.new (r1 i) hs2
 have hi2:(S2.at (r2 (r1 i))).isSome=true:=by obtain⟨_,n,n',_,h,_⟩:=hn2;rw [h];rfl
 have hio:(S1.at i).isSome=true:=by rw [(C1.old i hi).1];exact hi
 have hio2:(S2.at i).isSome=true:=by rw [(C2.old i hio).1];exact hio
 have hi12:(S2.at (r1 i)).isSome=true:=by rw [(C2.old _ hi1).1];exact hi1
 have htop:∀q,r1 i∉K2 q:=fun q h=>C1.top q (C2.ML hc2 hi1 h).2
 obtain⟨n12,hn12⟩:=aB.1 hi12
 refine⟨_,T2,.inl (.inr ⟨hn1.1,hi1⟩),.inr ⟨hn2.1,hi2⟩,YR C2 (YR C1 (fun y h=>h.elim)),fun f=>?_,fun f=>YK C2 hc2 f _ hs2,aB.1 hio2,⟨n12,hn12,(T2.ok.lk.top _ n12 hn12 htop).1⟩,aB.1 hi2,?_⟩
 ·rw [Yw (S:=S1) (K:=K1) (fun y=>(S1.at y).isSome=true) (fun y hy=>⟨(C2.old y hy).1,(C2.old y hy).2.1⟩) (fun y hy k hk=>(T1.ok.lk.kin y k hk).2) f i (r1 i) hio hi1]
  exact YK C1 hc1 f i hs1
 ·have h1:=nM T2.ok.lk hi12 htop i
  unfold lH at h1
  rw [h1,eY]
  intro e
  have h2:=hn1.1
  rw [← e] at h2
  rw [h2] at hi;cases hi
end Go.Proofs.YtfelmdkeaacfeaaGreatDoor.W
end
