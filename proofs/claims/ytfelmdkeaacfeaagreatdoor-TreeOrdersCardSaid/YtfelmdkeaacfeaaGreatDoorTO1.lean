/- Texts joined: BldR Top OrdP Cmp Cmq. -/
import Derived.Test.YtfelmdkeaacfeaaGreatDoorTB41
import Derived.Test.YtfelmdkeaacfeaaGreatDoorTB43
import Derived.Lib.FrozenHead
import Derived.Lib.OthersKept
import Derived.Lib.RuneBytes
import Derived.Shelf.Strings.BuilderK
import Derived.Laws.RangeString
import Derived.Laws.RangeAny
import Derived.LoopTactic
import Derived.RegionTactic
set_option maxRecDepth 100000
set_option maxHeartbeats 40000000
set_option linter.unusedVariables false
set_option linter.unusedSimpArgs false
section
namespace Go.Proofs.YtfelmdkeaacfeaaGreatDoor.W
open Go.RowKit
theorem Z7:(Tryz.prog.info? 5).map (fun i=>(i.zero,i.size,i.bytes))=some (some (.int .u8 0),1,1):=by kernel_rfl
end Go.Proofs.YtfelmdkeaacfeaaGreatDoor.W
end
section
namespace Go.Proofs.YtfelmdkeaacfeaaGreatDoor.W
open Go.RowKit
def Yo (S:Tr):Nat→Nat→Nat
 | 0,x=>x
 | f+1,x=>match pr S x with
  | none=>x
  | some p=>Yo S f p
def TpR (w:World)(S:Tr)(d:Nat→Nat)(g i:Nat)(hv nv:Value)(wr:World):Prop :=
 ∃x,(S.at x).isSome=true∧hv=.int .i64 (S.hd x)∧nv=.pointer (some (na g x))∧Yo S (d x) x=Yo S (d i) i∧d x≤d i∧Below w.heap.size w wr
theorem YJ {B R g cap:Nat}{S:Tr}{fv:Value}{w:World}{K:Nat→List Nat}{d:Nat→Nat}(h:fZ B R S (.slice (some ⟨g,0,none⟩) S.slots.length cap) fv w)(hL:Lk S K d)(i:Nat)(n:Nd)(hi:S.at i=some n) :
  Calls Tryz.prog 29 #[.pointer (some ⟨R,0,none⟩),.int .i64 (S.hd i)] w fun e w'=>e=.returned (.int .i64 (S.hd (Yo S (d i) i)))∧Below w.heap.size w w':=by
 have HA:=ae (bV h (S.hd i) (hd_ok hL hi).1 (fV hL hi))
 have HT:=ae h
 have HL:=ae hL
 have hui:(S.at i).isSome=true:=by rw [hi];rfl
 clear h hL hi
 go_enter Tryz.func29,Tryz.ntmps29
 go_wp2_with fail
 refine HA.out.mono ?_
 rintro e w2 ⟨rfl,hb2⟩
 go_wp2_with fail
 go_loopw [1,5] (fun hv nv wr=>TpR w S d g i hv nv wr) (fun hv _ _=>d ((S.ix (intOf hv)).getD 0))
 case atStart=>exact⟨i,hui,rfl,rfl,rfl,au _,hb2⟩
 case round =>
  obtain⟨x,hx,rfl,rfl,htop,hdx,hB⟩:=hrel
  obtain⟨nx,hnx⟩:=aB.1 hx
  have cx:=bK (HT.out.below hB) hnx 4 (by omega)
  rw [show(jd nx)[4]? = Option.some (.int .i64 nx.parent) from rfl] at cx
  have hixx:=fV HL.out hnx
  have hpos:=HL.out.pos x hx
  by_cases hk:∃q,x∈K q
  ·obtain⟨q,hq⟩:=hk
   obtain⟨nq,hnq⟩:=aB.1 (HL.out.kin q x hq).1
   obtain⟨j,hj⟩:=aI.1 hq
   have hpar:=(HL.out.kid q j x nx hj hnx).1
   have hdq:=HL.out.qc q x hq
   have hpr:=Ug HL.out hq
   have hixq:=fV HL.out hnq
   have HQ:=ae (bV (HT.out.below hB) (S.hd q) (hd_ok HL.out hnq).1 hixq)
   have hq0:=(hd_ok HL.out hnq).2
   have hne:(S.hd q == 0)=false:=by simp;omega
   rw [hpar] at cx
   have HS:=ae (fun w5 (hb:Below w.heap.size w w5)=>(show TpR w S d g i (.int .i64 (S.hd q)) (.pointer (some (na g q))) w5 from⟨q,by rw [hnq];rfl,rfl,rfl,by rw [← htop,hdq];simp only [Yo,hpr],by omega,hb⟩))
   have hms:d ((S.ix (S.hd q)).getD 0) < d ((S.ix (S.hd x)).getD 0):=by rw [hixq,hixx];show d q < d x;omega
   have HB:=ae hB
   clear hpr hpar hj hnq hnx hq hx hixq hixx htop hB
   go_wp2_with fail
   refine HQ.out.mono ?_
   rintro e w5 ⟨rfl,hb5⟩
   have HB5:=ae (HB.out.trans (hb5.mono HB.out.size))
   clear hb5
   go_wp2_with fail
   exact⟨HS.out _ HB5.out,by simpa [intOf] using hms⟩
  ·have hpar:=(HL.out.top x nx hnx (fun q hq=>hk ⟨q,hq⟩)).1
   rw [hpar] at cx
   have hpr:pr S x=none:=by
    unfold pr;rw [hnx];show S.ix nx.parent=none;rw [hpar];exact RP S
   have HE:=ae (show S.hd x=S.hd (Yo S (d i) i) by
    rw [← htop]
    obtain⟨m,hm⟩:∃m,d x=m+1:=⟨d x - 1,by omega⟩
    rw [hm];simp only [Yo,hpr])
   have HB:=ae hB
   clear hpr hpar hnx hx hixx htop hB hk
   go_wp2_with fail
   go_ret
   exact⟨by rw [← HE.out];rfl,HB.out⟩
end Go.Proofs.YtfelmdkeaacfeaaGreatDoor.W
end
section
namespace Go.Proofs.YtfelmdkeaacfeaaGreatDoor.W
open Go.RowKit
inductive Yp (K:Nat→List Nat):Nat→Nat→List Nat→Prop
 | nil (t:Nat):Yp K t t []
 | cons (t k x i:Nat) (l:List Nat) (h:(K t)[i]? = some k) (h2:Yp K k x l):Yp K t x (i :: l)
theorem Yp.snoc {K:Nat→List Nat}{t p:Nat}{l:List Nat}(h:Yp K t p l){j x:Nat}(hj:(K p)[j]? = some x):Yp K t x (l ++ [j]):=by
 induction h with
 | nil t=>exact .cons _ x x j [] hj (.nil _)
 | cons t k p i l h1 _ ih=>exact .cons t k x i _ h1 (ih hj)
theorem Yp.mem {K:Nat→List Nat}{t x:Nat}{l:List Nat}(h:Yp K t x l):∀f,l.length≤f→x∈dR K f t:=by
 induction h with
 | nil t=>intro f _;cases f <;> simp [dR]
 | cons t k x i l h1 _ ih =>
  intro f hf
  obtain⟨f',rfl⟩:∃f',f=f'+1:=⟨f - 1,by simp at hf;omega⟩
  have h3:=ih f' (by simpa using hf)
  show x∈t :: (K t).flatMap (dR K f')
  exact gX _ (bT.2 ⟨k,ah h1,h3⟩)
def cmpL:List Nat→List Nat→Int
 | [],[]=>0
 | [],_ :: _=>-1
 | _ :: _,[]=>1
 | a :: l,b :: m=>if a < b then -1 else if b < a then 1 else cmpL l m
def Yv (a b:Nat):Int:=if a < b then -1 else if b < a then 1 else 0
section
variable {K : Nat → List Nat}
def ZP (f:Nat→Nat)(l:List Nat)(i:Nat):Nat:=((l.take i).map f).sum
theorem Y9 (f:Nat→Nat)(l:List Nat):ZP f l 0=0:=by simp [ZP]
theorem YA (f:Nat→Nat)(k:Nat)(l:List Nat)(i:Nat):ZP f (k :: l) (i+1)=f k+ZP f l i:=by simp [ZP]
theorem Zb (g:Nat→List Nat):∀(l:List Nat) (i k x:Nat),l[i]? = some k→x∈g k→(∀j k',j < i→l[j]? = some k'→x∉g k')→(l.flatMap g).idxOf x=ZP (fun k=>(g k).length) l i+(g k).idxOf x
 | [],i,k,x,h,_,_=>by cases h
 | a :: l,0,k,x,h,hx,_=>by
  cases h
  rw [Y9,aJ,eG,List.idxOf_append,aC hx]
 | a :: l,i+1,k,x,h,hx,hno=>by
  have h1:=hno 0 a (by omega) rfl
  rw [eG,List.idxOf_append,ax h1,YA,Zb g l i k x h hx (fun j k' hj hk=>hno (j+1) k' (by omega) hk)]
  omega
theorem YL (f:Nat→Nat):∀(l:List Nat) (i j k:Nat),i < j→l[i]? = some k→ZP f l i+f k≤ZP f l j
 | [],i,j,k,_,h=>by cases h
 | a :: l,0,j,k,hj,h=>by
  cases h
  obtain⟨j',rfl⟩:∃j',j=j'+1:=⟨j - 1,by omega⟩
  rw [Y9,YA];omega
 | a :: l,i+1,j,k,hj,h=>by
  obtain⟨j',rfl⟩:∃j',j=j'+1:=⟨j - 1,by omega⟩
  rw [YA,YA]
  have:=YL f l i j' k (by omega) h
  omega
theorem YO {g:Nat→List Nat}:∀{l:List Nat},(l.flatMap g).Nodup→∀{i j k k' x:Nat},l[i]? = some k→l[j]? = some k'→x∈g k→x∈g k'→i=j
 | [],_,i,_,_,_,_,h,_,_,_=>by cases h
 | a :: l,hn,i,j,k,k',x,h,h',hx,hx'=>by
  rw [eG,jf] at hn
  obtain⟨h1,h2,h3⟩:=hn
  cases i with
  | zero =>
   cases j with
   | zero=>rfl
   | succ j =>
    cases h
    exact absurd rfl (h3 x hx x (bT.2 ⟨k',ah h',hx'⟩))
  | succ i =>
   cases j with
   | zero =>
    cases h'
    exact absurd rfl (h3 x hx' x (bT.2 ⟨k,ah h,hx⟩))
   | succ j=>rw [YO h2 (i:=i) (j:=j) h h' hx hx']
theorem YN {g:Nat→List Nat}:∀{l:List Nat},(l.flatMap g).Nodup→∀k∈l,(g k).Nodup
 | [],_,k,h=>by cases h
 | a :: l,hn,k,h=>by
  rw [eG,jf] at hn
  rcases bn.1 h with rfl | h
  ·exact hn.1
  ·exact YN hn.2.1 k h
theorem YM {t z:Nat}{l:List Nat}(h:t≠z):(t :: l).idxOf z=l.idxOf z+1:=by
 rw [List.idxOf_cons]
 have:(t == z)=false:=eY.2 h
 rw [this];rfl
theorem ZN (a b c:Nat):Yv (1+(a+b)) (1+(a+c))=Yv b c:=by
 unfold Yv
 by_cases h:b < c
 ·rw [aC h,aC (by omega)]
 ·rw [ax h,ax (by omega)]
  by_cases h2:c < b
  ·rw [aC h2,aC (by omega)]
  ·rw [ax h2,ax (by omega)]
theorem YS:∀(f t:Nat),(dR K f t).Nodup→∀(lx ly:List Nat) (x y:Nat),Yp K t x lx→Yp K t y ly→lx.length≤f→ly.length≤f→cmpL lx ly=Yv ((dR K f t).idxOf x) ((dR K f t).idxOf y)
 | 0,t,_,lx,ly,x,y,hx,hy,h1,h2=>by
  cases hx with
  | nil _=>cases hy with
   | nil _=>simp [cmpL,Yv]
   | cons=>simp at h2
  | cons=>simp at h1
 | f+1,t,hn,lx,ly,x,y,hx,hy,h1,h2=>by
  have hw:dR K (f+1) t=t :: (K t).flatMap (dR K f):=rfl
  rw [hw] at hn ⊢
  obtain⟨hn1,hn2⟩:=o8.1 hn
  have inT:∀z i k l,(K t)[i]? = some k→Yp K k z l→l.length≤f→z∈dR K f k∧z∈(K t).flatMap (dR K f)∧z≠t:=fun z i k l hk hp hl=>by
   have h3:=hp.mem f hl
   have h4:z∈(K t).flatMap (dR K f):=bT.2 ⟨k,ah hk,h3⟩
   exact⟨h3,h4,fun e=>hn1 (e ▸ h4)⟩
  have idx:∀z i k l,(K t)[i]? = some k→Yp K k z l→l.length≤f→(t :: (K t).flatMap (dR K f)).idxOf z=1+(ZP (fun k=>(dR K f k).length) (K t) i+(dR K f k).idxOf z):=fun z i k l hk hp hl=>by
   obtain⟨h3,h4,h5⟩:=inT z i k l hk hp hl
   rw [YM (fun e=>h5 e.symm),Zb (dR K f) (K t) i k z hk h3 (fun j k' hj hk' hz=>by
    have:=YO hn2 hk' hk hz h3
    omega)]
   omega
  cases hx with
  | nil _ =>
   cases hy with
   | nil _=>simp [cmpL,Yv]
   | cons _ k _ i l hk hp =>
    obtain⟨_,_,h5⟩:=inT y i k l hk hp (by simpa using h2)
    rw [idx y i k l hk hp (by simpa using h2),List.idxOf_cons_self]
    show(-1:Int)=Yv _ _
    unfold Yv
    rw [aC (by omega)]
  | cons _ k _ i l hk hp =>
   have hl:l.length≤f:=by simpa using h1
   have ex:=idx x i k l hk hp hl
   have hxk:=(inT x i k l hk hp hl).1
   have hxl:=XW hxk
   cases hy with
   | nil _ =>
    rw [ex,List.idxOf_cons_self]
    show(1:Int)=Yv _ _
    unfold Yv
    rw [ax (by omega),aC (by omega)]
   | cons _ k' _ j l' hk' hp' =>
    have hl':l'.length≤f:=by simpa using h2
    have ey:=idx y j k' l' hk' hp' hl'
    have hyk:=(inT y j k' l' hk' hp' hl').1
    have hyl:=XW hyk
    rw [ex,ey]
    show(if i < j then(-1:Int) else if j < i then 1 else cmpL l l')=_
    rcases Nat.lt_trichotomy i j with h | h | h
    ·rw [aC h]
     have:=YL (fun k=>(dR K f k).length) (K t) i j k h hk
     unfold Yv
     rw [aC (by omega)]
    ·subst h
     rw [hk] at hk';cases hk'
     rw [ax (by omega),ax (by omega),YS f k (YN hn2 k (ah hk)) l l' x y hp hp' hl hl']
     rw [ZN]
    ·rw [ax (by omega),aC h]
     have:=YL (fun k=>(dR K f k).length) (K t) j i k' h hk'
     unfold Yv
     rw [ax (by omega),aC (by omega)]
end
/-! ### the path in the tree -/
def Yu (S:Tr)(K:Nat→List Nat):Nat→Nat→List Nat
 | 0,_=>[]
 | f+1,x=>match pr S x with
  | none=>[]
  | some p=>(K p).idxOf x :: Yu S K f p
theorem YX {l:List Nat}{x:Nat}(h:x∈l):l[l.idxOf x]? = some x:=by
 have:=XW h
 rw [ay this,List.getElem_idxOf]
section
variable {S : Tr} {K : Nat → List Nat} {d : Nat → Nat}
theorem Y4 (L:Lk S K d){x:Nat}(hx:(S.at x).isSome=true):(pr S x=none∧d x=1∧∀q,x∉K q)∨∃p,pr S x=some p∧x∈K p∧d x=d p+1∧(S.at p).isSome=true:=by
 rcases L.NY x with ⟨q,hq⟩ | ht
 ·exact .inr ⟨q,Ug L hq,hq,L.qc q x hq,(L.kin q x hq).1⟩
 ·obtain⟨n,hn⟩:=aB.1 hx
  refine .inl ⟨?_,L.one x hx ht,ht⟩
  unfold pr;rw [hn];show S.ix n.parent=none;rw [(L.top x n hn ht).1];exact RP S
theorem Yt (L:Lk S K d):∀(n x:Nat),d x=n→(S.at x).isSome=true→Yp K (Yo S (d x) x) x (Yu S K (d x) x).reverse∧(Yu S K (d x) x).length+1=d x∧(S.at (Yo S (d x) x)).isSome=true∧(∀q,Yo S (d x) x∉K q)
 | n,x,hn,hx=>by
  rcases Y4 L hx with ⟨h1,h2,h3⟩ | ⟨p,h1,h2,h3,h4⟩
  ·rw [h2]
   simp only [Yo,Yu,h1]
   exact⟨.nil x,rfl,hx,h3⟩
  ·obtain⟨k1,k2,k3,k4⟩:=Yt L (d p) p rfl h4
   rw [h3]
   simp only [Yo,Yu,h1,List.reverse_cons]
   exact⟨k1.snoc (YX h2),by simp only [List.length_cons];omega,k3,k4⟩
termination_by n => n
decreasing_by omega
theorem Y2 (L:Lk S K d){t x:Nat}{l:List Nat}(h:Yp K t x l)(ht:(S.at t).isSome=true)(h1:∀q,t∉K q):Yo S (d x) x=t:=by
 have key:∀{t x l},Yp K t x l→(S.at t).isSome=true→Yo S (d x) x=Yo S (d t) t:=fun {t x l} h=>by
  induction h with
  | nil t=>intro _;rfl
  | cons t k x i l hk _ ih =>
   intro ht
   have hm:=ah hk
   rw [ih (L.kin t k hm).2,L.qc t k hm]
   simp only [Yo,Ug L hm]
 rw [key h ht]
 rcases Y4 L ht with ⟨a,b,_⟩ | ⟨p,_,a,_⟩
 ·rw [b];simp only [Yo,a]
 ·exact absurd a (h1 p)
theorem Y1 (K:Nat→List Nat):∀(f t x:Nat),x∈dR K f t→∃l,Yp K t x l∧l.length≤f
 | 0,t,x,h=>by
  have:x=t:=by simpa [dR] using h
  subst this;exact⟨[],.nil _,au _⟩
 | f+1,t,x,h=>by
  have h':x∈t :: (K t).flatMap (dR K f):=h
  rcases bn.1 h' with rfl | h'
  ·exact⟨[],.nil _,aZ _⟩
  ·obtain⟨k,hk,hx⟩:=bT.1 h'
   obtain⟨i,hi⟩:=aI.1 hk
   obtain⟨l,hl,hf⟩:=Y1 K f k x hx
   exact⟨i :: l,.cons t k x i l hi hl,by simpa using hf⟩
theorem Zd (L:Lk S K d){x y:Nat}(hx:(S.at x).isSome=true)(hy:(S.at y).isSome=true)(he:Yo S (d x) x=Yo S (d y) y)(hnd:(dR K (128 - d (Yo S (d x) x)) (Yo S (d x) x)).Nodup) :
  x∈dR K (128 - d (Yo S (d x) x)) (Yo S (d x) x)∧y∈dR K (128 - d (Yo S (d x) x)) (Yo S (d x) x) ∧
  cmpL (Yu S K (d x) x).reverse (Yu S K (d y) y).reverse=Yv ((dR K (128 - d (Yo S (d x) x)) (Yo S (d x) x)).idxOf x) ((dR K (128 - d (Yo S (d x) x)) (Yo S (d x) x)).idxOf y):=by
 obtain⟨a1,a2,a3,a4⟩:=Yt L (d x) x rfl hx
 obtain⟨b1,b2,b3,b4⟩:=Yt L (d y) y rfl hy
 rw [← he] at b1
 have h1:=L.one _ a3 a4
 have hlx:=L.low x
 have hly:=L.low y
 exact⟨a1.mem _ (by rw [List.length_reverse];omega),b1.mem _ (by rw [List.length_reverse];omega),YS _ _ hnd _ _ x y a1 b1 (by rw [List.length_reverse];omega) (by rw [List.length_reverse];omega)⟩
theorem ZT (L:Lk S K d){x y:Nat}(hx:(S.at x).isSome=true)(h:y∈dR K (128 - d (Yo S (d x) x)) (Yo S (d x) x)):Yo S (d y) y=Yo S (d x) x:=by
 obtain⟨_,_,a3,a4⟩:=Yt L (d x) x rfl hx
 obtain⟨l,hl,_⟩:=Y1 K _ _ y h
 exact Y2 L hl a3 a4
end
end Go.Proofs.YtfelmdkeaacfeaaGreatDoor.W
end
section
namespace Go.Proofs.YtfelmdkeaacfeaaGreatDoor.W
open Go.RowKit
theorem Zn (a:Int)(w:World):Calls Tryz.prog 133 #[.int .i64 a] w fun e w'=>e=.returned (.bool false)∧w'=w:=by
 go_enter Tryz.func133,Tryz.ntmps133
 go_wp2_with fail
 go_ret
 exact⟨rfl,rfl⟩
theorem ZU (a b:Int)(w:World):Calls Tryz.prog 119 #[.int .i64 a,.int .i64 b] w fun e w'=>e=.returned (.int .i64 (if a < b then -1 else if b < a then 1 else 0))∧w'=w:=by
 go_enter Tryz.func119,Tryz.ntmps119
 go_wp2_with fail
 refine(Zn a w).mono ?_
 rintro e w1 ⟨rfl,hw⟩
 rw [hw]
 clear hw
 go_wp2_with fail
 refine(Zn b w).mono ?_
 rintro e w1 ⟨rfl,hw⟩
 rw [hw]
 clear hw
 rcases Int.lt_trichotomy a b with h | h | h
 ·go_wp2_with fail
  go_ret
  exact⟨rfl,rfl⟩
 ·subst h
  go_wp2_with fail
  go_ret
  exact⟨rfl,rfl⟩
 ·have h':¬a < b:=by omega
  go_wp2_with fail
  go_ret
  exact⟨rfl,rfl⟩
theorem Y8 {w:World}{e:TypeId}{size g n cap:Nat}{xs:List Value}(h:Own w e size (.slice (some ⟨g,0,none⟩) n cap) n xs)(j:Nat):w.frozen? ⟨g,j,none⟩=false:=by
 rcases h.2 with ⟨h',_⟩ | ⟨g',cap',cur,h',hb,hg,_⟩
 ·cases h'
 ·simp only [bD,mY,yK,jX,je] at h'
  obtain⟨rfl,rfl⟩:=h'
  simp [World.frozen?,hg]
theorem Yn (l:List Nat):hC (l.map Int.ofNat)=l.map fun(k:Nat)=>Value.int .i64 (k:Int):=by unfold hC;rw [nK];rfl
def RvR (w:World)(B g n cap:Nat)(L:List Int)(iv jv:Value)(wr:World):Prop :=
 ∃(i:Nat),2*i≤n+1∧iv=.int .i64 (i:Int)∧jv=.int .i64 ((n:Int) - 1 - i)∧∃cs:List Int,cs.length=n∧Own wr 3 1 (.slice (some ⟨g,0,none⟩) n cap) n (hC cs)∧dU (fun k=>k=g) w wr ∧
  ∀k,k < n→cs[k]? = if k < i∨n≤k+i then L[n - 1 - k]? else L[k]?
theorem Y3 {w:World}{g n cap:Nat}{L:List Int}(h:Own w 3 1 (.slice (some ⟨g,0,none⟩) n cap) n (hC L))(hl:L.length=n)(hn:n≤1000000) :
  Calls Tryz.prog 120 #[.slice (some ⟨g,0,none⟩) n cap] w fun e w'=>e=.returned (.tuple #[])∧Own w' 3 1 (.slice (some ⟨g,0,none⟩) n cap) n (hC L.reverse)∧dU (fun k=>k=g) w w':=by
 have H:=ae h
 clear h
 go_enter Tryz.func120,Tryz.ntmps120
 go_wp2_with fail
 go_loopw [2,3] (fun iv jv wr=>RvR w 0 g n cap L iv jv wr) (fun iv _ _=>n - iW iv)
 case atStart=>exact⟨0,by omega,rfl,by simp,L,hl,H.out,dU.refl _ _,fun k hk=>by rw [ax (by omega)]⟩
 case round =>
  obtain⟨i,hi,rfl,rfl,cs,hcl,hO,hC',hcs⟩:=hrel
  by_cases hlt:i < n - 1 - i
  ·have hii:(i:Int) < (n:Int) - 1 - (i:Int):=by omega
   obtain⟨j,hj⟩:∃j:Nat,j=n - 1 - i:=⟨_,rfl⟩
   have hji:((n:Int) - 1 - (i:Int))=(j:Int):=by omega
   rw [hji] at hii ⊢
   obtain⟨x,hx⟩:∃x,cs[i]? = some x:=⟨_,ay (by omega)⟩
   obtain⟨y,hy⟩:∃y,cs[j]? = some y:=⟨_,ay (by omega)⟩
   have ci:wr.cell? ⟨g,i,none⟩=some (.int .i64 x):=by
    have:=hO.cellAt i (by omega)
    rw [this];unfold hC;rw [bI,hx];rfl
   have cj:wr.cell? ⟨g,j,none⟩=some (.int .i64 y):=by
    have:=hO.cellAt j (by omega)
    rw [this];unfold hC;rw [bI,hy];rfl
   have fi:=Y8 hO i
   have fj:=Y8 hO j
   have hgl:=jy hO rfl
   have HO:=ae (show Own ((wr.setCell ⟨g,i,none⟩ (.int .i64 y)).setCell ⟨g,j,none⟩ (.int .i64 x)) 3 1 (.slice (some ⟨g,0,none⟩) n cap) n (hC ((cs.set i y).set j x)) from by
    have:=tZ (tZ hO i (.int .i64 y)) j (.int .i64 x)
    unfold hC at this ⊢
    rw [List.map_set,List.map_set];exact this)
   have HC:=ae (show dU (fun k=>k=g) w ((wr.setCell ⟨g,i,none⟩ (.int .i64 y)).setCell ⟨g,j,none⟩ (.int .i64 x)) from(hC'.setCell ⟨g,i,none⟩ (fun _=>rfl) _).setCell ⟨g,j,none⟩ (fun _=>rfl) _)
   have hij:¬i=j:=by omega
   have hjl:j < n:=by omega
   have hin:i < n:=by omega
   have HJ:=ae hj
   have HCs:=ae hcs
   clear hO hC' hj hji hcs
   go_wp2_with fail
   go_region
   go_wp2
   go_roundw
   case measure=>have:=HJ.out;simp [iW];omega
   case rel =>
    have hj:=HJ.out
    have hcs:=HCs.out
    refine⟨i+1,by omega,by go_num,by simp;omega,(cs.set i y).set j x,by simp [hcl],HO.out,HC.out.trans (dU.of_below ((ak _ _).drew)) (fun _ _ e=>e),fun k hk=>?_⟩
    rw [dH,dH,dI]
    by_cases e1:j=k
    ·subst e1
     rw [aC rfl,aC (by omega),aC (by omega),← hx,hcs i hin,ax (by omega),show n - 1 - j=i by omega]
    ·rw [ax e1]
     by_cases e2:i=k
     ·subst e2
      rw [aC rfl,aC (by omega),aC (by omega),← hy,hcs j hjl,ax (by omega),show n - 1 - i=j by omega]
     ·rw [ax e2,hcs k hk]
      by_cases e3:k < i∨n≤k+i
      ·rw [aC e3,aC (by omega)]
      ·rw [ax e3,ax (by omega)]
  ·have hii:¬(i:Int) < (n:Int) - 1 - (i:Int):=by omega
   have HO:=ae hO
   have HC:=ae hC'
   have hrev:cs=L.reverse:=by
    apply gu
    intro k
    by_cases hk:k < n
    ·rw [hcs k hk,List.getElem?_reverse (by omega),hl]
     split
     ·rfl
     ·rw [show n - 1 - k=k by omega]
    ·rw [bQ (by omega),bQ (by rw [List.length_reverse];omega)]
   clear hO hC'
   go_wp2_with fail
   go_end0
   exact⟨rfl,hrev ▸ HO.out,HC.out⟩
def CmR (w:World)(l m:List Nat)(iv:Value)(wr:World):Prop:=wr=w∧∃i:Nat,i≤l.length∧i≤m.length∧iv=.int .i64 (i:Int)∧cmpL (l.drop i) (m.drop i)=cmpL l m
theorem drop_cons {l:List Nat}{i a:Nat}(h:l[i]? = some a):l.drop i=a :: l.drop (i+1):=by
 have hl:=(ai.1 h).1
 rw [qA hl]
 rw [ay hl] at h
 cases h;rfl
theorem ZJ {w:World}{v:Value}{l:List Nat}(h:Own w 3 1 v l.length (hC (l.map Int.ofNat))){i a:Nat}(ha:l[i]? = some a):∃g cap,v=.slice (some ⟨g,0,none⟩) l.length cap∧w.cell? ⟨g,i,none⟩=some (.int .i64 (a:Int)):=by
 have hl:=(ai.1 ha).1
 obtain⟨g,cap,rfl,_⟩:=sK h (by omega)
 refine⟨g,cap,rfl,?_⟩
 rw [h.cellAt i (by omega),Yn,bI,ha];rfl
theorem Zc {w:World}{v v2:Value}{l m:List Nat}(h:Own w 3 1 v l.length (hC (l.map Int.ofNat)))(h2:Own w 3 1 v2 m.length (hC (m.map Int.ofNat)))(hl:l.length≤1000000)(hm:m.length≤1000000) :
  Calls Tryz.prog 82 #[v,v2] w fun e w'=>e=.returned (.int .i64 (cmpL l m))∧w'=w:=by
 have H:=ae h
 have H2:=ae h2
 obtain⟨a1,c1,rfl⟩:=aW h
 obtain⟨a2,c2,rfl⟩:=aW h2
 clear h h2
 go_enter Tryz.func82,Tryz.ntmps82
 go_wp2_with fail
 go_loopw [11] (fun iv wr=>CmR w l m iv wr) (fun iv _=>l.length - iW iv)
 case atStart=>exact⟨rfl,0,aZ _,aZ _,rfl,rfl⟩
 case round =>
  obtain⟨hw,i,hi,hi2,rfl,hc⟩:=hrel
  rw [hw]
  clear hw
  by_cases hlt:i < l.length
  ·obtain⟨a,ha⟩:∃a,l[i]? = some a:=⟨_,ay hlt⟩
   obtain⟨g1,k1,e1,q1⟩:=ZJ H.out ha
   simp only [bD,je] at e1
   obtain⟨rfl,rfl⟩:=e1
   have hii:(i:Int) < (l.length:Int):=by omega
   rw [drop_cons ha] at hc
   by_cases hlt2:i < m.length
   ·obtain⟨b,hb⟩:∃b,m[i]? = some b:=⟨_,ay hlt2⟩
    obtain⟨g2,k2,e2,q2⟩:=ZJ H2.out hb
    simp only [bD,je] at e2
    obtain⟨rfl,rfl⟩:=e2
    have hi2:¬(m.length:Int)≤(i:Int):=by omega
    rw [drop_cons hb] at hc
    have hc':(if a < b then(-1:Int) else if b < a then 1 else cmpL (l.drop (i+1)) (m.drop (i+1)))=cmpL l m:=hc
    have HCc:=ae hc'
    clear hc hc'
    go_wp2_with fail
    refine(ZU (a:Int) (b:Int) w).mono ?_
    rintro e w5 ⟨rfl,hw⟩
    rw [hw]
    clear hw
    rcases Nat.lt_trichotomy a b with h | h | h
    ·have hc':=HCc.out
     rw [aC h] at hc'
     have HCd:=ae hc'
     clear hc'
     have e3:(if(a:Int) < (b:Int) then(-1:Int) else if(b:Int) < (a:Int) then 1 else 0)=-1:=aC (by omega)
     rw [e3]
     go_wp2_with fail
     go_ret
     exact⟨by rw [← HCd.out];rfl,rfl⟩
    ·subst h
     have hc':=HCc.out
     rw [ax (by omega),ax (by omega)] at hc'
     have HCd:=ae hc'
     clear hc'
     have e3:(if(a:Int) < (a:Int) then(-1:Int) else if(a:Int) < (a:Int) then 1 else 0)=0:=by rw [ax (by omega),ax (by omega)]
     rw [e3]
     go_wp2_with fail
     go_roundw
     case rel=>exact⟨rfl,i+1,by omega,by omega,by go_num,HCd.out⟩
     case measure=>simp [iW];omega
    ·have hc':=HCc.out
     rw [ax (by omega),aC h] at hc'
     have HCd:=ae hc'
     clear hc'
     have e3:(if(a:Int) < (b:Int) then(-1:Int) else if(b:Int) < (a:Int) then 1 else 0)=1:=by rw [ax (by omega),aC (by omega)]
     rw [e3]
     go_wp2_with fail
     go_ret
     exact⟨by rw [← HCd.out];rfl,rfl⟩
   ·have hi2:(m.length:Int)≤(i:Int):=by omega
    rw [List.drop_of_length_le (l:=m) (by omega)] at hc
    have hc':(1:Int)=cmpL l m:=hc
    have HCc:=ae hc'
    clear hc hc'
    go_wp2_with fail
    go_ret
    exact⟨by rw [← HCc.out];rfl,rfl⟩
  ·have hii:¬(i:Int) < (l.length:Int):=by omega
   rw [List.drop_of_length_le (l:=l) (by omega)] at hc
   by_cases hlt2:l.length < m.length
   ·have h3:(l.length:Int) < (m.length:Int):=by omega
    obtain⟨b,hb⟩:∃b,m[i]? = some b:=⟨_,ay (by omega)⟩
    rw [drop_cons hb] at hc
    have hc':(-1:Int)=cmpL l m:=hc
    have HCc:=ae hc'
    clear hc hc'
    go_wp2_with fail
    go_ret
    exact⟨by rw [← HCc.out];rfl,rfl⟩
   ·have h3:¬(l.length:Int) < (m.length:Int):=by omega
    rw [List.drop_of_length_le (l:=m) (by omega)] at hc
    have hc':(0:Int)=cmpL l m:=hc
    have HCc:=ae hc'
    clear hc hc'
    go_wp2_with fail
    go_ret
    exact⟨by rw [← HCc.out];rfl,rfl⟩
/-! ### path -/
theorem reverse_nil (a:Option Addr)(cap:Nat)(w:World):Calls Tryz.prog 120 #[.slice a 0 cap] w fun e w'=>e=.returned (.tuple #[])∧w'=w:=by
 go_enter Tryz.func120,Tryz.ntmps120
 go_wp2_with fail
 go_loopw [2,3] (fun iv jv wr=>iv=.int .i64 0∧jv=.int .i64 (-1)∧wr=w) (fun _ _ _=>0)
 case atStart=>exact⟨rfl,rfl,rfl⟩
 case round =>
  obtain⟨rfl,rfl,rfl⟩:=hrel
  go_wp2_with fail
  go_end0
  exact⟨rfl,rfl⟩
theorem ZB {w:World}{e:TypeId}{size g n cap B:Nat}{xs:List Value}(h:Own w e size (.slice (some ⟨g,0,none⟩) n cap) n xs)(hB:B≤g):w.ownsRow B e size (.slice (some ⟨g,0,none⟩) n cap) n xs:=by
 refine⟨h.1,?_⟩
 rcases h.2 with h' | ⟨g',cap',cur,h',hb,rest⟩
 ·exact .inl h'
 ·have e:=h'
  simp only [bD,mY,yK,jX,je] at e
  obtain⟨rfl,rfl⟩:=e
  exact .inr ⟨g,cap,cur,h',hB,rest⟩
def PaR (w:World)(S:Tr)(K:Nat→List Nat)(d:Nat→Nat)(g i:Nat)(hv ov nv:Value)(wr:World):Prop :=
 ∃(x:Nat) (L:List Nat) (v:Value),v=ov∧(S.at x).isSome=true∧hv=.int .i64 (S.hd x)∧nv=.pointer (some (na g x))∧L ++ Yu S K (d x) x=Yu S K (d i) i∧L.length+d x=d i∧wr.ownsRow w.heap.size 3 1 v L.length (hC (L.map Int.ofNat))∧Below w.heap.size w wr
theorem Y7 {B R g cap:Nat}{S:Tr}{fv:Value}{w:World}{K:Nat→List Nat}{d:Nat→Nat}(h:fZ B R S (.slice (some ⟨g,0,none⟩) S.slots.length cap) fv w)(hL:Lk S K d)(i:Nat)(n:Nd)(hi:S.at i=some n) :
  Calls Tryz.prog 83 #[.pointer (some ⟨R,0,none⟩),.int .i64 (S.hd i)] w fun e w'=>∃v,e=.returned v∧w'.ownsRow w.heap.size 3 1 v (Yu S K (d i) i).length (hC ((Yu S K (d i) i).reverse.map Int.ofNat))∧Below w.heap.size w w':=by
 have HA:=ae (bV h (S.hd i) (hd_ok hL hi).1 (fV hL hi))
 have HT:=ae h
 have HL:=ae hL
 have hui:(S.at i).isSome=true:=by rw [hi];rfl
 obtain⟨i0,hi0,hz0,hz1,hz2⟩:=WY Tn
 have hdi:=hL.low i
 clear h hL hi
 go_enter Tryz.func83,Tryz.ntmps83
 go_wp2_with fail
 refine HA.out.mono ?_
 rintro e w2 ⟨rfl,hb2⟩
 go_wp2_with fail
 go_loopw [1,5,6] (fun hv ov nv wr=>PaR w S K d g i hv ov nv wr) (fun hv _ _ _=>d ((S.ix (intOf hv)).getD 0))
 case atStart=>exact⟨i,[],_,rfl,hui,rfl,rfl,rfl,by simp,aG _ _ _ _,hb2⟩
 case round =>
  obtain⟨x,L,ov,rfl,hx,rfl,rfl,hpt,hdx,hown,hB⟩:=hrel
  obtain⟨nx,hnx⟩:=aB.1 hx
  have cx:=bK (HT.out.below hB) hnx 4 (by omega)
  rw [show(jd nx)[4]? = Option.some (.int .i64 nx.parent) from rfl] at cx
  have hixx:=fV HL.out hnx
  have hpos:=HL.out.pos x hx
  by_cases hk:∃q,x∈K q
  ·obtain⟨q,hq⟩:=hk
   obtain⟨nq,hnq⟩:=aB.1 (HL.out.kin q x hq).1
   have hj:=YX hq
   obtain⟨j,hjj⟩:∃j,j=(K q).idxOf x:=⟨_,rfl⟩
   rw [← hjj] at hj
   have hpar:=(HL.out.kid q j x nx hj hnx).1
   have hdq:=HL.out.qc q x hq
   have hpr:=Ug HL.out hq
   have hixq:=fV HL.out hnq
   have HX:=ae (fun wx (hb:Below w.heap.size w wx)=>sQ (HT.out.below hb) HL.out q j x hj)
   have HQ:=ae (fun wx (hb:Below w.heap.size w wx)=>bV (HT.out.below hb) (S.hd q) (hd_ok HL.out hnq).1 hixq)
   have HC:=ae (fun wx (hb:Below w.heap.size w wx)=>(show wx.cell? ⟨g,x*10+1+4,none⟩=some (.int .i64 (S.hd q)) by
    have:=bK (HT.out.below hb) hnx 4 (by omega)
    rw [show(jd nx)[4]? = Option.some (.int .i64 nx.parent) from rfl,hpar] at this
    exact this))
   have hq0:=(hd_ok HL.out hnq).2
   have hne:(S.hd q == 0)=false:=by simp;omega
   have hne3:¬S.hd q=0:=by omega
   rw [hpar] at cx
   have hpt2:(L ++ [j]) ++ Yu S K (d q) q=Yu S K (d i) i:=by
    rw [← hpt,hdq]
    simp only [Yu,hpr]
    rw [← hjj,bu];rfl
   have hms:d ((S.ix (S.hd q)).getD 0) < d ((S.ix (S.hd x)).getD 0):=by rw [hixq,hixx];show d q < d x;omega
   have hkl:=lX HL.out q
   have hjl:=(ai.1 hj).1
   have HS:=ae (fun w5 (hb:Below w.heap.size w w5) ov' (ho:w5.ownsRow w.heap.size 3 1 ov' (L.length+1) (hC (L.map Int.ofNat) ++ [.int .i64 (j:Int)]))=>(show PaR w S K d g i (.int .i64 (S.hd q)) ov' (.pointer (some (na g q))) w5 from⟨q,L ++ [j],ov',rfl,by rw [hnq];rfl,rfl,rfl,hpt2,by simp;omega,by
    rw [aA,ig]
    unfold hC at ho ⊢
    rw [ig]
    exact ho,hb⟩))
   have HB:=ae hB
   have HW:=ae hown
   clear hpr hpar hj hnq hnx hq hx hixq hixx hpt hB hpt2 hown hjj
   go_wp2_with fail
   refine(HX.out _ HB.out).mono ?_
   rintro e w5 ⟨rfl,hb5⟩
   have HB5:=ae (HB.out.trans (hb5.mono HB.out.size))
   have hown5:=fH HW.out hb5
   have hlt2:=fun g (hg:ov.ownBlock=some g)=>(hown5.lt g hg).1
   have HO:=ae (show ∀A,(w5.alloc A).ownsRow w.heap.size 3 1 ov L.length (hC (L.map Int.ofNat)) from fun A=>hown5.alloc A)
   clear hb5 HB HW hown5 cx
   generalize S.hd q=hq1 at *
   generalize hC (L.map Int.ofNat)=XS at *
   go_wp2_with (at_builtin;refine qo _ rfl _ _ 31 rfl w.heap.size 3 i0 _ 1 8 Tryz.underlying31 hi0 hz0 hz1 hz2 rfl (by decide) _ L.length _ rfl (HO.out _) _ 1 1 [.int .i64 (j:Int)] rfl rfl (cell_one_new _ _ _) (by simp [Value.oneCell']) ?c1 ?c2 ?c3 ?_)
   case c1=>unfold maxLen;omega
   case c2=>omega
   case c3=>have:=HB5.out.size;simp;omega
   intro v' w6 hown6 hgr6 _
   have hB6:Below w.heap.size w w6:=(HB5.out.alloc HB5.out.size _).grown hgr6 (by have:=HB5.out.size;simp;omega) hlt2
   have HW6:=ae hown6
   have HB6:=ae hB6
   have cx:=HC.out _ hB6
   clear hown6 hgr6 hB6
   go_wp2_with fail
   refine(HQ.out _ HB6.out).mono ?_
   rintro e w7 ⟨rfl,hb7⟩
   have HB7:=ae (HB6.out.trans (hb7.mono HB6.out.size))
   have HW7:=ae (fH HW6.out hb7)
   clear hb7
   go_wp2_with fail
   exact⟨HS.out _ HB7.out _ HW7.out,by simpa [intOf] using hms⟩
  ·have hpar:=(HL.out.top x nx hnx (fun q hq=>hk ⟨q,hq⟩)).1
   rw [hpar] at cx
   have hpr:pr S x=none:=by
    unfold pr;rw [hnx];show S.ix nx.parent=none;rw [hpar];exact RP S
   have hLe:L=Yu S K (d i) i:=by
    rw [← hpt]
    obtain⟨m,hm⟩:∃m,d x=m+1:=⟨d x - 1,by omega⟩
    rw [hm];simp only [Yu,hpr,aT]
   have hll:L.length≤128:=by omega
   have HLe:=ae hLe
   have HB:=ae hB
   have HW:=ae hown
   clear hpr hpar hnx hx hixx hpt hB hk hown hLe
   obtain⟨a,cp,rfl⟩:=bP HW.out
   go_wp2_with fail
   cases L with
   | nil =>
    refine(reverse_nil a cp _).mono ?_
    rintro e w5 ⟨rfl,hw⟩
    rw [hw]
    clear hw
    go_wp2_with fail
    go_ret
    exact⟨_,rfl,by rw [← HLe.out];exact HW.out,HB.out⟩
   | cons y L =>
    obtain⟨g5,c5,e5,_⟩:=sK (iD HW.out (aZ _)) (by simp)
    cases e5
    have hge:=(HW.out.lt g5 rfl).1
    refine(Y3 (iD HW.out (aZ _)) (by simp) (by simp only [List.length_cons] at hll ⊢;omega)).mono ?_
    rintro e w5 ⟨rfl,ho5,hc5⟩
    have HB5:=ae (show Below w.heap.size w w5 from HB.out.trans (hc5.below HB.out.size (fun k hk=>by rw [hk];exact hge)))
    have HO5:=ae (ZB ho5 hge)
    clear ho5 hc5
    go_wp2_with fail
    go_ret
    exact⟨_,rfl,by rw [← HLe.out,List.map_reverse];exact HO5.out,HB5.out⟩
end Go.Proofs.YtfelmdkeaacfeaaGreatDoor.W
end
section
namespace Go.Proofs.YtfelmdkeaacfeaaGreatDoor.W
open Go.RowKit
def YP (S:Tr)(K:Nat→List Nat)(d:Nat→Nat)(i j:Nat):Int×Int :=
 if Yo S (d i) i=Yo S (d j) j then(cmpL (Yu S K (d i) i).reverse (Yu S K (d j) j).reverse,0) else(0,6)
theorem ZW {S:Tr}{K:Nat→List Nat}{d:Nat→Nat}(L:Lk S K d){i j:Nat}(hi:(S.at i).isSome=true)(hj:(S.at j).isSome=true)(e:S.hd i=S.hd j):i=j:=by
 obtain⟨n,hn⟩:=aB.1 hi
 obtain⟨m,hm⟩:=aB.1 hj
 have:=iy hn
 have:=iy hm
 have:=L.few
 exact zJ (b:=S.b) (s:=S.s) (by omega) (by omega) e
theorem Zg {B R:Nat}{S:Tr}{sv fv:Value}{w:World}(h:fZ B R S sv fv w)(ha hb:Int)(hha:uY ha)(hk:S.ix ha=none) :
  Calls Tryz.prog 34 #[.pointer (some ⟨R,0,none⟩),.int .i64 ha,.int .i64 hb] w fun e w'=>e=.returned (.tuple #[.int .i64 0,.int .i64 6])∧Below w.heap.size w w':=by
 have HA:=ae (qI h ha hha hk)
 clear h hk
 go_enter Tryz.func34,Tryz.ntmps34
 go_wp2_with fail
 refine HA.out.mono ?_
 rintro e w2 ⟨rfl,hb⟩
 go_wp2_with fail
 go_ret2
 exact⟨rfl,hb⟩
theorem Zf {B R g cap:Nat}{S:Tr}{fv:Value}{w:World}{K:Nat→List Nat}{d:Nat→Nat}(h:fZ B R S (.slice (some ⟨g,0,none⟩) S.slots.length cap) fv w)(hL:Lk S K d)(i:Nat)(n:Nd)(hi:S.at i=some n)(hb:Int)(hhb:uY hb)(hk:S.ix hb=none) :
  Calls Tryz.prog 34 #[.pointer (some ⟨R,0,none⟩),.int .i64 (S.hd i),.int .i64 hb] w fun e w'=>e=.returned (.tuple #[.int .i64 0,.int .i64 6])∧Below w.heap.size w w':=by
 have HA:=ae (bV h (S.hd i) (hd_ok hL hi).1 (fV hL hi))
 have HB:=ae (fun wx (hx:Below w.heap.size w wx)=>qI (h.below hx) hb hhb hk)
 clear h hk hi hL
 go_enter Tryz.func34,Tryz.ntmps34
 go_wp2_with fail
 refine HA.out.mono ?_
 rintro e w2 ⟨rfl,hb2⟩
 go_wp2_with fail
 refine(HB.out _ hb2).mono ?_
 rintro e w3 ⟨rfl,hb3⟩
 have hb4:=aV hb2 hb3
 go_wp2_with fail
 go_ret2
 exact⟨rfl,hb4⟩
theorem YQ {B R g cap:Nat}{S:Tr}{fv:Value}{w:World}{K:Nat→List Nat}{d:Nat→Nat}(h:fZ B R S (.slice (some ⟨g,0,none⟩) S.slots.length cap) fv w)(hL:Lk S K d)(i j:Nat)(n m:Nd)(hi:S.at i=some n)(hj:S.at j=some m) :
  Calls Tryz.prog 34 #[.pointer (some ⟨R,0,none⟩),.int .i64 (S.hd i),.int .i64 (S.hd j)] w fun e w'=>e=.returned (.tuple #[.int .i64 (YP S K d i j).1,.int .i64 (YP S K d i j).2])∧Below w.heap.size w w':=by
 have HA:=ae (bV h (S.hd i) (hd_ok hL hi).1 (fV hL hi))
 have HB:=ae (fun wx (hx:Below w.heap.size w wx)=>bV (h.below hx) (S.hd j) (hd_ok hL hj).1 (fV hL hj))
 have HTi:=ae (fun wx (hx:Below w.heap.size w wx)=>YJ (h.below hx) hL i n hi)
 have HTj:=ae (fun wx (hx:Below w.heap.size w wx)=>YJ (h.below hx) hL j m hj)
 have HPi:=ae (fun wx (hx:Below w.heap.size w wx)=>Y7 (h.below hx) hL i n hi)
 have HPj:=ae (fun wx (hx:Below w.heap.size w wx)=>Y7 (h.below hx) hL j m hj)
 obtain⟨p1,p2,p3,p4⟩:=Yt hL (d i) i rfl (by rw [hi];rfl)
 obtain⟨q1,q2,q3,q4⟩:=Yt hL (d j) j rfl (by rw [hj];rfl)
 have hdi:=hL.low i
 have hdj:=hL.low j
 have heq:Yo S (d i) i≠Yo S (d j) j→S.hd (Yo S (d i) i)≠S.hd (Yo S (d j) j):=fun h e=>h (ZW hL p3 q3 e)
 clear h hL hi hj p1 q1 p3 q3 p4 q4
 go_enter Tryz.func34,Tryz.ntmps34
 go_wp2_with fail
 refine HA.out.mono ?_
 rintro e w2 ⟨rfl,hb2⟩
 go_wp2_with fail
 refine(HB.out _ hb2).mono ?_
 rintro e w3 ⟨rfl,hb3⟩
 have HB3:=ae (aV hb2 hb3)
 clear hb2 hb3
 go_wp2_with fail
 refine(HTi.out _ HB3.out).mono ?_
 rintro e w4 ⟨rfl,hb4⟩
 have HB4:=ae (aV HB3.out hb4)
 clear hb4
 go_wp2_with fail
 refine(HTj.out _ HB4.out).mono ?_
 rintro e w5 ⟨rfl,hb5⟩
 have HB5:=ae (aV HB4.out hb5)
 clear hb5
 by_cases ht:Yo S (d i) i=Yo S (d j) j
 ·have hc:YP S K d i j=(cmpL (Yu S K (d i) i).reverse (Yu S K (d j) j).reverse,0):=by unfold YP;rw [aC ht]
  have HC:=ae hc
  rw [ht]
  clear hc ht heq
  go_wp2_with fail
  refine(HPi.out _ HB5.out).mono ?_
  rintro e w6 ⟨v,rfl,ho,hb6⟩
  have HO:=ae ho
  have HB6:=ae (aV HB5.out hb6)
  clear ho hb6
  go_wp2_with fail
  refine(HPj.out _ HB6.out).mono ?_
  rintro e w7 ⟨v2,rfl,ho2,hb7⟩
  have HB7:=ae (aV HB6.out hb7)
  have HO1:=ae (iD (fH HO.out hb7) (aZ _))
  have HO2:=ae (iD ho2 (aZ _))
  clear ho2 hb7
  go_wp2_with fail
  refine(Zc (l:=(Yu S K (d i) i).reverse) (m:=(Yu S K (d j) j).reverse) (by rw [List.length_reverse];exact HO1.out) (by rw [List.length_reverse];exact HO2.out) (by rw [List.length_reverse];omega) (by rw [List.length_reverse];omega)).mono ?_
  rintro e w8 ⟨rfl,hw⟩
  rw [hw]
  clear hw
  go_wp2_with fail
  go_ret2
  exact⟨by rw [HC.out];rfl,HB7.out⟩
 ·have hc:YP S K d i j=(0,6):=by unfold YP;rw [ax ht]
  have hne:=heq ht
  have HC:=ae hc
  clear hc ht heq
  go_wp2_with fail
  go_ret2
  exact⟨by rw [HC.out];rfl,HB5.out⟩
/-! ### Top of the model -/
def Yq (X:List MN):Nat→Nat→Nat
 | 0,x=>x
 | f+1,x=>match PU X x with
  | none=>x
  | some p=>Yq X f p
theorem ZG {Q g cap:Nat}{X:List MX}{D:Nat→Nat}{w:World}(h:Af Q (.slice (some ⟨g,0,none⟩) X.length cap) X w)(hW:MW (ms X) D)(b:Nat){mb:MN}(hb:lv (ms X) b=some mb) :
  Calls Tryz.prog 36 #[.pointer (some ⟨Q,0,none⟩),.int .i64 (b:Int)] w fun e w'=>e=.returned (.int .i64 (Yq (ms X) (D b) b:Nat))∧w'=w:=by
 have c0:=h.ptr
 have hf:=(aY X ▸ hW.few)
 have HH:=ae h
 have HW:=ae hW
 have Hb:=ae hb
 clear h hW hb
 go_enter Tryz.func36,Tryz.ntmps36
 go_wp2_with fail
 go_loopw [1] (fun bv wr=>∃x:Nat,(∃m,lv (ms X) x=some m)∧bv=.int .i64 (x:Int)∧Yq (ms X) (D b) b=Yq (ms X) (D x) x∧wr=w) (fun bv _=>D (BR bv).toNat)
 case atStart=>exact⟨b,⟨_,Hb.out⟩,rfl,rfl,rfl⟩
 case round =>
  obtain⟨x,⟨mx,hx⟩,rfl,hE,rfl⟩:=hrel
  have hxl:=lU hx
  obtain⟨_,c4,_⟩:=HH.out.FZ hx
  obtain⟨h1,h2⟩:=HW.out.up hx
  have hpos:=HW.out.Sm hx
  obtain⟨f,hfu⟩:∃f,D x=f+1:=⟨D x - 1,by omega⟩
  have hmp:=MS hx
  cases e:mx.par with
  | none =>
   rw [e] at hmp c4
   have hr:Yq (ms X) (D b) b=x:=by rw [hE,hfu];simp only [Yq,hmp]
   rw [show pI none=-1 from rfl] at c4
   have HR:=ae hr
   clear hr hE hmp hx h1 h2
   go_wp2_with fail
   go_ret
   exact⟨by rw [HR.out];rfl,by trivial⟩
  | some p =>
   rw [e] at hmp c4 h2
   obtain⟨mp,hmpp⟩:=h1 p e
   simp only [dO] at h2
   have hr:Yq (ms X) (D b) b=Yq (ms X) (D p) p:=by rw [hE,hfu,show D p=f by omega];simp only [Yq,hmp]
   rw [show pI (some p)=(p:Int) from rfl] at c4
   have HR:=ae hr
   have HP:=ae hmpp
   have h2':D p < D x:=by omega
   have hp0:(0:Int)≤(p:Int):=by omega
   clear hr hE hmp hx h1 h2 hmpp hfu
   go_wp2_with fail
   exact⟨⟨p,⟨_,HP.out⟩,rfl,HR.out,trivial⟩,by simpa [BR] using h2'⟩
end Go.Proofs.YtfelmdkeaacfeaaGreatDoor.W
end
