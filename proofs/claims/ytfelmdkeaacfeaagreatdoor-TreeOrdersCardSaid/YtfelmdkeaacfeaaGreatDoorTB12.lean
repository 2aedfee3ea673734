/- Texts joined: Pts Cany. -/
import Derived.Test.YtfelmdkeaacfeaaGreatDoorTB1
import Derived.Test.YtfelmdkeaacfeaaGreatDoorTB11
import Derived.Test.YtfelmdkeaacfeaaGreatDoorTB5
import Derived.Laws.RangeAny
import Derived.Laws.Runes
import Derived.WalkMore
import Derived.Deep.QuietTactic
import Derived.BigQuiet
import Derived.ScopeJumps
set_option maxRecDepth 100000
set_option maxHeartbeats 40000000
set_option linter.unusedVariables false
set_option linter.unusedSimpArgs false
section
namespace Go.Proofs.YtfelmdkeaacfeaaGreatDoor.W
open Go.RowKit
theorem Nq (l:List UInt8)(hne:l≠[]):(Lib.decodeL l).2=max (kS l) 1:=by
 have hw:=XT l
 unfold kS
 rw [ax hne]
 split
 ·rename_i h;rw [h.2];rfl
 ·omega
theorem Nl (s:ByteArray)(pos:Nat)(h:pos < s.size):s.data.toList.drop pos≠[]:=by
 intro e
 have:=bW List.length e
 rw [aS,Array.length_toList] at this
 have h2:s.data.size=s.size:=rfl
 simp at this
 omega
theorem drop_end (s:ByteArray)(pos:Nat)(h:¬pos < s.size):s.data.toList.drop pos=[] :=
 fK (by rw [Array.length_toList];show s.size≤pos;omega)
theorem xB (s:ByteArray):∀f pos,s.size≤pos+f→Lib.runeCountFrom s f pos=(iF (s.data.toList.drop pos)).length
 | 0,pos,h=>by
  rw [drop_end s pos (by omega)]
  rfl
 | f+1,pos,h=>by
  unfold Lib.runeCountFrom
  by_cases hp:pos < s.size
  ·have hne:=Nl s pos hp
   have hw:=width_pos s pos hp
   rw [aC hp,xB s f _ (by omega),qL _ hne,List.length_cons,uF,Nq _ hne,← qB]
   omega
  ·rw [ax hp,drop_end s pos hp]
   rfl
theorem oD (l:List UInt8):Lib.runeCount ⟨l.toArray⟩=(iF l).length:=by
 unfold Lib.runeCount
 rw [xB _ _ _ (by omega)]
 rfl
def uf (P:List (List UInt8))(k:Nat):Nat:=(P.take k).flatten.length
theorem FM (P:List (List UInt8)):uf P 0=0:=rfl
theorem FN (x:List UInt8)(P:List (List UInt8))(k:Nat):uf (x :: P) (k+1)=x.length+uf P k:=by
 unfold uf
 rw [List.take_succ_cons,List.flatten_cons,aA]
theorem IQ (s:ByteArray)(a b:Nat)(hab:a≤b):∀(f pos n i:Nat),s.size≤pos+f→n≤b →
  Dx s a b f pos n i=(if n≤a∧a < n+(iF (s.data.toList.drop pos)).length then pos+uf (iF (s.data.toList.drop pos)) (a - n) else i,
   if b < n+(iF (s.data.toList.drop pos)).length then pos+uf (iF (s.data.toList.drop pos)) (b - n) else s.size)
 | 0,pos,n,i,h,hn=>by
  rw [drop_end s pos (by omega)]
  unfold Dx
  rw [vK]
  simp only [List.length_nil,Nat.add_zero]
  rw [ax (by omega),ax (by omega)]
 | f+1,pos,n,i,h,hn=>by
  unfold Dx
  by_cases hp:pos < s.size
  ·have hne:=Nl s pos hp
   have hw:=width_pos s pos hp
   have hst:=qL _ hne
   have hdm:=Nq _ hne
   rw [qB,← hdm,← uF] at hst
   have hxl:(List.take (Utf8.decode s pos).2 (s.data.toList.drop pos)).length=(Utf8.decode s pos).2:=by
    rw [fC]
    have:=Yf _ hne
    rw [← uF] at this
    omega
   rw [aC hp]
   by_cases hnb:n=b
   ·subst hnb
    rw [aC (by rfl),hst,List.length_cons,aC (show n < _ by omega),jY,FM,Nat.add_zero]
    by_cases hna:n=a
    ·subst hna
     rw [aC (by rfl),aC (by omega)]
     simp [uf]
    ·rw [ax (by omega),ax (by omega)]
     simp [uf]
   ·rw [ax (by omega),IQ s a b hab f _ _ _ (by omega) (by omega),hst,List.length_cons]
    generalize hP:iF (s.data.toList.drop (pos+(Utf8.decode s pos).2))=P at *
    congr 1
    ·by_cases hna:n=a
     ·subst hna
      rw [ax (by omega),aC (by rfl),aC (by omega),jY,FM,Nat.add_zero]
     ·rw [ax (show ¬(n:Int)=(a:Int) by omega)]
      by_cases q:n+1≤a∧a < n+1+P.length
      ·rw [aC q,aC (by omega),show a - n=(a - (n+1))+1 by omega,FN,hxl]
       omega
      ·rw [ax q,ax (by omega)]
    ·by_cases q:b < n+1+P.length
     ·rw [aC q,aC (by omega),show b - n=(b - (n+1))+1 by omega,FN,hxl]
      omega
     ·rw [ax q,ax (by omega)]
  ·rw [ax hp,drop_end s pos hp,vK]
   simp only [List.length_nil,Nat.add_zero]
   rw [ax (by omega),ax (by omega)]
theorem PQ (P:List (List UInt8)):uf P P.length=P.flatten.length:=by unfold uf;rw [dE]
theorem Qy (P:List (List UInt8))(a b:Nat)(hab:a≤b):(P.flatten.take (uf P b)).drop (uf P a)=joinL P a b:=by
 have e1:P.flatten.take (uf P b)=(P.take b).flatten:=by
  conv=>lhs;rw [← bG b P,nR]
  unfold uf
  exact XV (by simp)
 have e2:(P.take b).flatten=(P.take a).flatten ++ ((P.take b).drop a).flatten:=by
  conv=>lhs;rw [← bG a (P.take b),nR]
  rw [WS,rQ hab]
 rw [e1,e2]
 unfold uf joinL
 exact XX rfl
theorem Bj (l:List UInt8)(hv:ik l=l)(a b:Nat)(hab:a≤b)(hb:b≤(iF l).length):oC l a b=joinL (iF l) a b:=by
 unfold oC
 by_cases h:(b:Int)≤max (a:Int) 0
 ·rw [aC h,uy _ _ _ (.inl (by omega))]
 ·rw [ax h,pY,hv,show max (a:Int) 0=(a:Int) by omega,IQ ⟨l.toArray⟩ a b hab l.length 0 0 l.length (by show l.toArray.size≤_;simp) (aZ _)]
  have hd:(⟨l.toArray⟩:ByteArray).data.toList.drop 0=l:=rfl
  have hfl:(iF l).flatten=l:=Aw l.length l (au _)
  have hsz:(⟨l.toArray⟩:ByteArray).size=l.length:=by show l.toArray.size=_;simp
  have hall:=PQ (iF l)
  rw [hfl] at hall
  rw [hd,aJ,hsz]
  have e1:(if 0≤a∧a < (iF l).length then 0+uf (iF l) (a - 0) else l.length)=uf (iF l) a:=by
   by_cases q:a < (iF l).length
   ·rw [aC ⟨by omega,q⟩];simp
   ·rw [ax (by omega),← hall,show a=(iF l).length by omega]
  have e2:(if b < (iF l).length then 0+uf (iF l) (b - 0) else l.length)=uf (iF l) b:=by
   by_cases q:b < (iF l).length
   ·rw [aC q];simp
   ·rw [ax (by omega),← hall,show b=(iF l).length by omega]
  rw [e1,e2]
  unfold VH
  rw [Xc,Xl,List.extract_eq_take_drop]
  have:=Qy (iF l) a b hab
  rw [hfl] at this
  rw [← this,List.drop_take]
/-! ### what is repaired is valid -/
theorem CG (l t:List UInt8)(h:kS l≠0):kS (l.take (kS l) ++ t)=kS l∧(l.take (kS l)).length=kS l:=by
 have hne:l≠[]:=fun e=>h (by rw [e];rfl)
 have hle:=Gy l
 have hlen:(l.take (kS l)).length=kS l:=by rw [fC];omega
 refine⟨?_,hlen⟩
 have hne2:l.take (kS l) ++ t≠[]:=fun e=>by
  have:=bW List.length e
  rw [aA,hlen] at this
  simp at this
  omega
 have hl0:0 < l.length:=gz.2 hne
 obtain⟨z,hz⟩:∃z,kS l=z:=⟨_,rfl⟩
 rw [hz] at h hle hlen hne2 ⊢
 have g:∀k,k < z→(l.take z ++ t).getD k 0=l.getD k 0:=by
  intro k hk
  rw [dV,dV,di (by omega),eX,aC hk]
 rw [Pv _ hne2,aA,hlen]
 rw [Pv _ hne] at hz
 have hz0:0 < z+t.length:=by omega
 have zz:∀b lo hi,lu (z+t.length) 0 b lo hi=lu l.length 0 b lo hi:=fun b lo hi=>by
  unfold lu
  rw [dZ hz0,dZ hl0]
 have mm:∀i b lo hi,i < z→lu l.length i b lo hi=true→lu (z+t.length) i b lo hi=true:=fun i b lo hi hi' h=>by
  unfold lu at h ⊢
  simp only [aH,dG] at h ⊢
  omega
 have nn:∀b lo hi,(b < lo∨hi < b)→lu l.length 0 b lo hi=false:=fun b lo hi h=>by
  unfold lu
  simp only [Bool.and_eq_false_iff,Yb]
  omega
 have bb:∀b lo hi,lu l.length 0 b lo hi=true→lo≤b∧b≤hi:=fun b lo hi h=>by
  unfold lu at h
  simp only [aH,dG] at h
  omega
 have ss:∀b0 b1,1 < z→tJ l.length b0 b1=true→tJ (z+t.length) b0 b1=true:=fun b0 b1 h1 h=>by
  unfold tJ at h ⊢
  by_cases q0:b0=224
  ·rw [aC q0] at h ⊢;exact mm _ _ _ _ h1 h
  rw [ax q0] at h ⊢
  by_cases q1:b0=237
  ·rw [aC q1] at h ⊢;exact mm _ _ _ _ h1 h
  rw [ax q1] at h ⊢
  by_cases q2:b0=240
  ·rw [aC q2] at h ⊢;exact mm _ _ _ _ h1 h
  rw [ax q2] at h ⊢
  by_cases q3:b0=244
  ·rw [aC q3] at h ⊢;exact mm _ _ _ _ h1 h
  ·rw [ax q3] at h ⊢;exact mm _ _ _ _ h1 h
 unfold IJ at hz ⊢
 by_cases c1:lu l.length 0 (l.getD 0 0).toNat 0 127=true
 ·rw [aC c1] at hz
  subst hz
  rw [g 0 (by omega),zz,aC c1]
 ·rw [ax c1] at hz
  by_cases c2:(lu l.length 0 (l.getD 0 0).toNat 194 223 && lu l.length 1 (l.getD 1 0).toNat 128 191)=true
  ·rw [aC c2] at hz
   subst hz
   rw [aH] at c2
   rw [g 0 (by omega),g 1 (by omega),zz,zz,ax c1,aC (by rw [c2.1,mm _ _ _ _ (by omega) c2.2];rfl)]
  ·rw [ax c2] at hz
   by_cases c3:(lu l.length 0 (l.getD 0 0).toNat 224 239 && tJ l.length (l.getD 0 0).toNat (l.getD 1 0).toNat && lu l.length 2 (l.getD 2 0).toNat 128 191)=true
   ·rw [aC c3] at hz
    subst hz
    rw [aH,aH] at c3
    have hb:=bb _ _ _ c3.1.1
    rw [g 0 (by omega),g 1 (by omega),g 2 (by omega),zz,zz,zz,ax c1,nn (l.getD 0 0).toNat 194 223 (by omega),uM,ax (by simp),aC (by rw [c3.1.1,ss _ _ (by omega) c3.1.2,mm _ _ _ _ (by omega) c3.2];rfl)]
   ·rw [ax c3] at hz
    by_cases c4:(lu l.length 0 (l.getD 0 0).toNat 240 244 && tJ l.length (l.getD 0 0).toNat (l.getD 1 0).toNat && (lu l.length 2 (l.getD 2 0).toNat 128 191 && lu l.length 3 (l.getD 3 0).toNat 128 191))=true
    ·rw [aC c4] at hz
     subst hz
     rw [aH,aH,aH] at c4
     have hb:=bb _ _ _ c4.1.1
     rw [g 0 (by omega),g 1 (by omega),g 2 (by omega),g 3 (by omega),zz,zz,zz,zz,ax c1,nn (l.getD 0 0).toNat 194 223 (by omega),nn (l.getD 0 0).toNat 224 239 (by omega),uM,uM,uM,ax (by simp),ax (by simp),
      aC (by rw [c4.1.1,ss _ _ (by omega) c4.1.2,mm _ _ _ _ (by omega) c4.2.1,mm _ _ _ _ (by omega) c4.2.2];rfl)]
    ·rw [ax c4] at hz
     exact absurd hz.symm h
theorem GK (t:List UInt8):ik ([239,191,189] ++ t)=[239,191,189] ++ ik t:=by
 have h3:kS ([239,191,189] ++ t)=3:=by
  have:=(CG [239,191,189] t (by decide)).1
  rw [show kS [239,191,189]=3 by decide] at this
  exact this
 rw [kT _ (by simp),h3,ax (by omega)]
 rfl
theorem KC (n:Nat):∀(l:List UInt8),l.length≤n→ik (ik l)=ik l:=by
 induction n with
 | zero =>
  intro l h
  have:l=[]:=dh (by omega)
  subst this
  rfl
 | succ n ih =>
  intro l h
  by_cases hne:l=[]
  ·subst hne;rfl
  ·have hl:0 < l.length:=gz.2 hne
   have e:=kT l hne
   by_cases h0:kS l=0
   ·rw [aC h0] at e
    rw [e,GK,ih _ (by rw [aS];omega)]
   ·rw [ax h0] at e
    obtain⟨h1,h2⟩:=CG l (ik (l.drop (kS l))) h0
    have hne2:l.take (kS l) ++ ik (l.drop (kS l))≠[]:=fun e2=>by
     have:=bW List.length e2
     rw [aA,h2] at this
     simp at this
     omega
    have e3:=kT _ hne2
    rw [h1,ax h0,XV h2,XX h2,ih _ (by rw [aS];omega)] at e3
    rw [e,e3]
theorem FD (l:List UInt8):ik (ik l)=ik l:=KC l.length l (au _)
theorem PK (n:Nat):∀(l t:List UInt8),l.length≤n→ik l=l→ik (l ++ t)=l ++ ik t:=by
 induction n with
 | zero =>
  intro l t h _
  have:l=[]:=dh (by omega)
  subst this
  rfl
 | succ n ih =>
  intro l t h hv
  by_cases hne:l=[]
  ·subst hne;rfl
  ·have hl:0 < l.length:=gz.2 hne
   have e:=kT l hne
   rw [hv] at e
   by_cases h0:kS l=0
   ·rw [aC h0] at e
    have:=bW List.length e
    have h2:=Bq (l.drop 1)
    rw [aA,List.length_cons,List.length_cons,List.length_cons,List.length_nil] at this
    rw [aS] at h2
    omega
   ·rw [ax h0] at e
    have e2:ik (l.drop (kS l))=l.drop (kS l):=by
     have e3:l.take (kS l) ++ l.drop (kS l)=l.take (kS l) ++ ik (l.drop (kS l)):=(bG _ _).trans e
     exact(CY e3).symm
    have hlt:l ++ t=l.take (kS l) ++ (l.drop (kS l) ++ t):=by rw [← bu,bG]
    obtain⟨h1,h2⟩:=CG l (l.drop (kS l) ++ t) h0
    rw [hlt,kT _ (by intro e4;have:=bW List.length e4;rw [aA,h2] at this;simp at this;omega),h1,ax h0,XV h2,XX h2,ih _ _ (by rw [aS];omega) e2,← bu,bG]
theorem vI (l t:List UInt8)(h1:ik l=l)(h2:ik t=t):ik (l ++ t)=l ++ t:=by
 rw [PK l.length l t (au _) h1,h2]
theorem NW (n:Nat):∀(l:List UInt8),l.length≤n→ik l=l→∀x∈iF l,ik x=x:=by
 induction n with
 | zero =>
  intro l h _ x hx
  have:l=[]:=dh (by omega)
  subst this
  cases hx
 | succ n ih =>
  intro l h hv x hx
  by_cases hne:l=[]
  ·subst hne;cases hx
  ·have hl:0 < l.length:=gz.2 hne
   have e:=kT l hne
   rw [hv] at e
   by_cases h0:kS l=0
   ·rw [aC h0] at e
    have:=bW List.length e
    have h2:=Bq (l.drop 1)
    rw [aA,List.length_cons,List.length_cons,List.length_cons,List.length_nil] at this
    rw [aS] at h2
    omega
   ·rw [ax h0] at e
    have e2:ik (l.drop (kS l))=l.drop (kS l):=by
     have e3:l.take (kS l) ++ l.drop (kS l)=l.take (kS l) ++ ik (l.drop (kS l)):=(bG _ _).trans e
     exact(CY e3).symm
    rw [qL l hne,show max (kS l) 1=kS l by omega,bn] at hx
    rcases hx with rfl | hx
    ·obtain⟨h1,h2⟩:=CG l [] h0
     rw [aT] at h1
     have e5:=kT (l.take (kS l)) (by intro e4;have:=bW List.length e4;rw [h2] at this;simp at this;omega)
     have e6:(l.take (kS l)).take (kS l)=l.take (kS l):=by rw [WS,Nat.min_self]
     have e7:(l.take (kS l)).drop (kS l)=[]:=fK (by omega)
     rw [h1,ax h0,e6,e7,yU,aT] at e5
     exact e5
    ·exact ih _ (by rw [aS];omega) e2 x hx
theorem Eg:∀(P:List (List UInt8)),(∀x∈P,ik x=x)→ik P.flatten=P.flatten
 | [],_=>rfl
 | x :: P,h=>by
  rw [List.flatten_cons]
  exact vI _ _ (h x (by simp)) (Eg P fun y hy=>h y (by simp [hy]))
theorem BC (l:List UInt8)(hv:ik l=l)(a b:Nat):ik (joinL (iF l) a b)=joinL (iF l) a b :=
 Eg _ fun x hx=>NW l.length l (au _) hv x (kE (kF hx))
theorem Em (s:ByteArray)(pos:Nat):((Utf8.decode s pos).1 < 55296∨57344≤(Utf8.decode s pos).1)∧(Utf8.decode s pos).1≤1114111:=by
 rw [yJ]
 have k0:=(s.get! pos).toNat_lt
 have k1:=(s.get! (pos+1)).toNat_lt
 have k2:=(s.get! (pos+2)).toNat_lt
 have k3:=(s.get! (pos+3)).toNat_lt
 unfold Lib.decodeN
 repeat' split
 all_goals (simp only [];omega)
theorem LK (r:Int)(h0:128≤r)(h1:r < 2048):∃x y:UInt8,Utf8.encode r=⟨#[x,y]⟩∧128≤y.toNat:=by
 have hv:Utf8.valid r=true:=by unfold Utf8.valid;simp;omega
 refine⟨UInt8.ofNat (0xC0+r.toNat / 64),UInt8.ofNat (0x80+r.toNat % 64),?_,?_⟩
 ·unfold Utf8.encode
  simp only [hv,oW]
  rw [ax (by omega),aC (by omega)]
 ·rw [Xy]
  omega
theorem Ig (r:Int)(h0:2048≤r)(h1:r < 65536)(hs:r < 55296∨57344≤r):∃x y z:UInt8,Utf8.encode r=⟨#[x,y,z]⟩∧128≤z.toNat:=by
 have hv:Utf8.valid r=true:=by unfold Utf8.valid;simp;omega
 refine⟨UInt8.ofNat (0xE0+r.toNat / 4096),UInt8.ofNat (0x80+r.toNat / 64 % 64),UInt8.ofNat (0x80+r.toNat % 64),?_,?_⟩
 ·unfold Utf8.encode
  simp only [hv,oW]
  rw [ax (by omega),ax (by omega),aC (by omega)]
 ·rw [Xy]
  omega
theorem Jz (r:Int)(h0:65536≤r)(h1:r≤1114111):∃x y z u:UInt8,Utf8.encode r=⟨#[x,y,z,u]⟩∧128≤u.toNat:=by
 have hv:Utf8.valid r=true:=by unfold Utf8.valid;simp;omega
 refine⟨UInt8.ofNat (0xF0+r.toNat / 262144),UInt8.ofNat (0x80+r.toNat / 4096 % 64),UInt8.ofNat (0x80+r.toNat / 64 % 64),UInt8.ofNat (0x80+r.toNat % 64),?_,?_⟩
 ·unfold Utf8.encode
  simp only [hv,oW]
  rw [ax (by omega),ax (by omega),ax (by omega)]
 ·rw [Xy]
  omega
theorem G6 (l:List UInt8)(h:∀b∈l,b.toNat < 128)(y:UInt8)(hy:128≤y.toNat):Lib.indexByte l y=-1:=by
 induction l with
 | nil=>rfl
 | cons b l ih =>
  have hb:=h b (by simp)
  have hne:¬b=y:=fun e=>by subst e;omega
  have:=ih (fun c hc=>h c (by simp [hc]))
  simp [Lib.indexByte,hne,this]
theorem EM (r:Int)(h0:128≤r)(h1:r < 2048)(w:World) :
  Calls Tryz.prog 139 #[.string ⟨#[9,10,12,13,32,47,62]⟩,.int .i32 r] w fun e w'=>e=.returned (.int .i64 (-1))∧Below w.heap.size w w':=by
 have HV:=ae (Tryz.utf8_ValidRune r w)
 have hv:Lib.validRune r=true:=by unfold Lib.validRune;simp;omega
 rw [hv] at HV
 obtain⟨x,y,he,hy⟩:=LK r h0 h1
 have d0:decide ((0:Int)≤r)=true:=by simp;omega
 have d1:decide (r < 128)=false:=by simp;omega
 have d2:(r == 65533)=false:=by simp;omega
 have HB:=ae (fun wx=>Tryz.strings_IndexByte ((⟨#[9,10,12,13,32,47,62]⟩:ByteArray).extract 2 7) (y.toNat:Int) wx)
 have hB:Lib.indexByte ((⟨#[9,10,12,13,32,47,62]⟩:ByteArray).extract 2 7).data.toList ((y.toNat:Int)).toNat.toUInt8=-1:=G6 _ (fun b hb=>by
  have e:((⟨#[9,10,12,13,32,47,62]⟩:ByteArray).extract 2 7).data.toList=[12,13,32,47,62]:=by rfl
  rw [e] at hb
  simp only [bn,iH,rP] at hb
  rcases hb with rfl | rfl | rfl | rfl | rfl <;> decide) _ (by simpa using hy)
 simp only [hB] at HB
 have e1:((((⟨#[9,10,12,13,32,47,62]⟩:ByteArray)[1]'(by decide)).toNat:Int) != (((⟨#[x,y]⟩:ByteArray)[1]'(by show 1 < 2;omega)).toNat:Int))=true:=by
  show(((10:Int)) != (y.toNat:Int))=true
  simp
  omega
 clear hv hB
 go_enter Tryz.func139,Tryz.ntmps139
 go_wp2_with fail
 refine HV.out.mono ?_
 rintro e wz ⟨rfl,hw⟩
 subst wz
 go_wp2_with fail
 go_step3
 go_wp2_with fail
 go_loopw [9] (fun iv wr=>iv=.int .i64 1∧wr=w) (fun _ _=>0)
 case atStart=>exact⟨rfl,rfl⟩
 case round =>
  obtain⟨rfl,hw⟩:=hrel
  subst wr
  go_wp2_with fail
  go_step3
  go_upto_region 6 with fail
  go_quiet (fail)
  go_upto_region 7 with fail
  have hne:=gI (w.drewN nq)
  refine oP (fun _=>.int .i64 (-1)) 8 (by kernel_rfl) (by kernel_rfl) ?_
  simp only [mD,mr,l9,lZ]
  repeat (first
   | (refine aN (by rfl) (by rfl) (fun K hK=>?_);go_big_quiet_step (fail);refine az ?_;refine hK.out _ ?_;clear hK K)
   | (refine aK (by rfl) ?_;simp only [Act.put,dL,dK,dJ]))
  refine dM (.int .i64 (-1)) rfl (by rfl) (by rfl) (fun w=>by go_simp;exact⟨rfl,rfl⟩) ?_ ?_
  ·intro X wx hx
   refine(HB.out _).mono ?_
   rintro e wz ⟨rfl,hw⟩
   subst wz
   exact⟨rfl,hx⟩
  simp only [Act.put,dL,dK,dJ]
  repeat (first
   | (refine aN (by rfl) (by rfl) (fun K hK=>?_);go_big_quiet_step (fail);refine az ?_;refine hK.out _ ?_;clear hK K)
   | (refine aK (by rfl) ?_;simp only [Act.put,dL,dK,dJ]))
  refine eH ?_
  intro w2 h2
  go_wp2_with fail
  rw [Exit.noGoto_ret]
  simp only [Exit.inBlock]
  show Exit.noGoto _ Exit.ret _ _
  rw [Exit.noGoto_ret]
  simp only [Exit.inBlock,Exit.then]
  rw [Exit.noGoto_ret]
  go_ret
  exact⟨rfl,(Below.drewN (ak _ _) _).trans (h2.mono (by simp))⟩
theorem BU (r:Int)(h0:2048≤r)(h1:r < 65536)(hs:r < 55296∨57344≤r)(hx:r≠65533)(w:World) :
  Calls Tryz.prog 139 #[.string ⟨#[9,10,12,13,32,47,62]⟩,.int .i32 r] w fun e w'=>e=.returned (.int .i64 (-1))∧Below w.heap.size w w':=by
 have HV:=ae (Tryz.utf8_ValidRune r w)
 have hv:Lib.validRune r=true:=by unfold Lib.validRune;simp;omega
 rw [hv] at HV
 obtain⟨x,y,z,he,hy⟩:=Ig r h0 h1 hs
 have d0:decide ((0:Int)≤r)=true:=by simp;omega
 have d1:decide (r < 128)=false:=by simp;omega
 have d2:(r == 65533)=false:=by simp;omega
 have HB:=ae (fun wx=>Tryz.strings_IndexByte ((⟨#[9,10,12,13,32,47,62]⟩:ByteArray).extract 3 7) (z.toNat:Int) wx)
 have hB:Lib.indexByte ((⟨#[9,10,12,13,32,47,62]⟩:ByteArray).extract 3 7).data.toList ((z.toNat:Int)).toNat.toUInt8=-1:=G6 _ (fun b hb=>by
  have e:((⟨#[9,10,12,13,32,47,62]⟩:ByteArray).extract 3 7).data.toList=[13,32,47,62]:=by rfl
  rw [e] at hb
  simp only [bn,iH,rP] at hb
  rcases hb with rfl | rfl | rfl | rfl <;> decide) _ (by simpa using hy)
 simp only [hB] at HB
 have e1:((((⟨#[9,10,12,13,32,47,62]⟩:ByteArray)[2]'(by decide)).toNat:Int) != (((⟨#[x,y,z]⟩:ByteArray)[2]'(by show 2 < 3;omega)).toNat:Int))=true:=by
  show(((12:Int)) != (z.toNat:Int))=true
  simp
  omega
 clear hv hB
 go_enter Tryz.func139,Tryz.ntmps139
 go_wp2_with fail
 refine HV.out.mono ?_
 rintro e wz ⟨rfl,hw⟩
 subst wz
 go_wp2_with fail
 go_step3
 go_wp2_with fail
 go_loopw [9] (fun iv wr=>iv=.int .i64 2∧wr=w) (fun _ _=>0)
 case atStart=>exact⟨rfl,rfl⟩
 case round =>
  obtain⟨rfl,hw⟩:=hrel
  subst wr
  go_wp2_with fail
  go_step3
  go_upto_region 6 with fail
  go_quiet (fail)
  go_upto_region 7 with fail
  have hne:=gI (w.drewN nq)
  refine oP (fun _=>.int .i64 (-1)) 8 (by kernel_rfl) (by kernel_rfl) ?_
  simp only [mD,mr,l9,lZ]
  repeat (first
   | (refine aN (by rfl) (by rfl) (fun K hK=>?_);go_big_quiet_step (fail);refine az ?_;refine hK.out _ ?_;clear hK K)
   | (refine aK (by rfl) ?_;simp only [Act.put,dL,dK,dJ]))
  refine dM (.int .i64 (-1)) rfl (by rfl) (by rfl) (fun w=>by go_simp;exact⟨rfl,rfl⟩) ?_ ?_
  ·intro X wx hx
   refine(HB.out _).mono ?_
   rintro e wz ⟨rfl,hw⟩
   subst wz
   exact⟨rfl,hx⟩
  simp only [Act.put,dL,dK,dJ]
  repeat (first
   | (refine aN (by rfl) (by rfl) (fun K hK=>?_);go_big_quiet_step (fail);refine az ?_;refine hK.out _ ?_;clear hK K)
   | (refine aK (by rfl) ?_;simp only [Act.put,dL,dK,dJ]))
  refine eH ?_
  intro w2 h2
  go_wp2_with fail
  rw [Exit.noGoto_ret]
  simp only [Exit.inBlock]
  show Exit.noGoto _ Exit.ret _ _
  rw [Exit.noGoto_ret]
  simp only [Exit.inBlock,Exit.then]
  rw [Exit.noGoto_ret]
  go_ret
  exact⟨rfl,(Below.drewN (ak _ _) _).trans (h2.mono (by simp))⟩
theorem Eb (r:Int)(h0:65536≤r)(h1:r≤1114111)(w:World) :
  Calls Tryz.prog 139 #[.string ⟨#[9,10,12,13,32,47,62]⟩,.int .i32 r] w fun e w'=>e=.returned (.int .i64 (-1))∧Below w.heap.size w w':=by
 have HV:=ae (Tryz.utf8_ValidRune r w)
 have hv:Lib.validRune r=true:=by unfold Lib.validRune;simp;omega
 rw [hv] at HV
 obtain⟨x,y,z,u,he,hy⟩:=Jz r h0 h1
 have d0:decide ((0:Int)≤r)=true:=by simp;omega
 have d1:decide (r < 128)=false:=by simp;omega
 have d2:(r == 65533)=false:=by simp;omega
 have HB:=ae (fun wx=>Tryz.strings_IndexByte ((⟨#[9,10,12,13,32,47,62]⟩:ByteArray).extract 4 7) (u.toNat:Int) wx)
 have hB:Lib.indexByte ((⟨#[9,10,12,13,32,47,62]⟩:ByteArray).extract 4 7).data.toList ((u.toNat:Int)).toNat.toUInt8=-1:=G6 _ (fun b hb=>by
  have e:((⟨#[9,10,12,13,32,47,62]⟩:ByteArray).extract 4 7).data.toList=[32,47,62]:=by rfl
  rw [e] at hb
  simp only [bn,iH,rP] at hb
  rcases hb with rfl | rfl | rfl <;> decide) _ (by simpa using hy)
 simp only [hB] at HB
 have e1:((((⟨#[9,10,12,13,32,47,62]⟩:ByteArray)[3]'(by decide)).toNat:Int) != (((⟨#[x,y,z,u]⟩:ByteArray)[3]'(by show 3 < 4;omega)).toNat:Int))=true:=by
  show(((13:Int)) != (u.toNat:Int))=true
  simp
  omega
 clear hv hB
 go_enter Tryz.func139,Tryz.ntmps139
 go_wp2_with fail
 refine HV.out.mono ?_
 rintro e wz ⟨rfl,hw⟩
 subst wz
 go_wp2_with fail
 go_step3
 go_wp2_with fail
 go_loopw [9] (fun iv wr=>iv=.int .i64 3∧wr=w) (fun _ _=>0)
 case atStart=>exact⟨rfl,rfl⟩
 case round =>
  obtain⟨rfl,hw⟩:=hrel
  subst wr
  go_wp2_with fail
  go_step3
  go_upto_region 6 with fail
  go_quiet (fail)
  go_upto_region 7 with fail
  have hne:=gI (w.drewN nq)
  refine oP (fun _=>.int .i64 (-1)) 8 (by kernel_rfl) (by kernel_rfl) ?_
  simp only [mD,mr,l9,lZ]
  repeat (first
   | (refine aN (by rfl) (by rfl) (fun K hK=>?_);go_big_quiet_step (fail);refine az ?_;refine hK.out _ ?_;clear hK K)
   | (refine aK (by rfl) ?_;simp only [Act.put,dL,dK,dJ]))
  refine dM (.int .i64 (-1)) rfl (by rfl) (by rfl) (fun w=>by go_simp;exact⟨rfl,rfl⟩) ?_ ?_
  ·intro X wx hx
   refine(HB.out _).mono ?_
   rintro e wz ⟨rfl,hw⟩
   subst wz
   exact⟨rfl,hx⟩
  simp only [Act.put,dL,dK,dJ]
  repeat (first
   | (refine aN (by rfl) (by rfl) (fun K hK=>?_);go_big_quiet_step (fail);refine az ?_;refine hK.out _ ?_;clear hK K)
   | (refine aK (by rfl) ?_;simp only [Act.put,dL,dK,dJ]))
  refine eH ?_
  intro w2 h2
  go_wp2_with fail
  rw [Exit.noGoto_ret]
  simp only [Exit.inBlock]
  show Exit.noGoto _ Exit.ret _ _
  rw [Exit.noGoto_ret]
  simp only [Exit.inBlock,Exit.then]
  rw [Exit.noGoto_ret]
  go_ret
  exact⟨rfl,(Below.drewN (ak _ _) _).trans (h2.mono (by simp))⟩
theorem EN (w:World) :
  Calls Tryz.prog 139 #[.string ⟨#[9,10,12,13,32,47,62]⟩,.int .i32 65533] w fun e w'=>e=.returned (.int .i64 (-1))∧Below w.heap.size w w':=by
 have HD:=ae (fun(pos:Nat) (hp:pos < 7)=>(show ∃c:Nat,c < 128∧Utf8.decode ⟨#[9,10,12,13,32,47,62]⟩ pos=(c,1) from by
  have hs:(⟨#[9,10,12,13,32,47,62]⟩:ByteArray).size=7:=rfl
  have ha:((⟨#[9,10,12,13,32,47,62]⟩:ByteArray)[pos]'(by rw [hs];exact hp)).toNat < 128:=by
   have hm:(⟨#[9,10,12,13,32,47,62]⟩:ByteArray)[pos]'(by rw [hs];exact hp)∈([9,10,12,13,32,47,62]:List UInt8):=by
    show(#[9,10,12,13,32,47,62]:Array UInt8)[pos]'hp∈_
    exact Array.mem_toList_iff.2 (Array.getElem_mem hp)
   generalize (⟨#[9,10,12,13,32,47,62]⟩:ByteArray)[pos]'(by rw [hs];exact hp)=b at hm
   simp only [bn,iH,rP] at hm
   rcases hm with rfl | rfl | rfl | rfl | rfl | rfl | rfl <;> decide
  exact⟨_,ha,decode_ascii _ pos (by rw [hs];exact hp) ha⟩))
 have hs:(⟨#[9,10,12,13,32,47,62]⟩:ByteArray).size=7:=rfl
 generalize (⟨#[9,10,12,13,32,47,62]⟩:ByteArray)=s at *
 go_enter Tryz.func139,Tryz.ntmps139
 go_wp2_with fail
 go_loopw [5,6] (fun _ _ wr=>∃pos:Nat,pos≤7∧wr.heap[w.heap.size]? = some (.stringIter s pos)∧Below w.heap.size w wr) (fun _ _ wr=>7 - wr.iterPos w.heap.size)
 case atStart =>
  refine⟨0,by omega,?_,(ak _ w).alloc (au _) _⟩
  have:=Xt w s 0
  simpa using this
 case round =>
  obtain⟨pos,hpos,hit,hb⟩:=hrel
  by_cases hp:pos < 7
  ·obtain⟨c,hc,hd⟩:=HD.out pos hp
   have hnx:∀ty,(Instr.next (.pointer (some ⟨w.heap.size,0,none⟩)) true ty).run Tryz.prog wr=_:=fun ty=>Ac wr w.heap.size s pos ty hit (by omega)
   rw [hd] at hnx
   have hit2:=Ad wr w.heap.size s pos (pos+1) hit
   have hbw2:=xm hb (k:=w.heap.size) (by omega) s (pos+1)
   have e1:(((c:Nat):Int) == 65533)=false:=by simp;omega
   go_wp2_with fail
   refine⟨⟨pos+1,by omega,hit2,hbw2⟩,?_⟩
   simp only [World.iterPos,hit2,hit]
   omega
  ·have hnx:∀ty,(Instr.next (.pointer (some ⟨w.heap.size,0,none⟩)) true ty).run Tryz.prog wr=_:=fun ty=>Aa wr w.heap.size s pos ty hit (by omega)
   go_wp2_with fail
   go_ret
   exact⟨rfl,hb⟩
theorem EO (r:Int)(h0:128≤r)(h1:r < 55296∨57344≤r)(h2:r≤1114111)(w:World) :
  Calls Tryz.prog 139 #[.string ⟨#[9,10,12,13,32,47,62]⟩,.int .i32 r] w fun e w'=>e=.returned (.int .i64 (-1))∧Below w.heap.size w w':=by
 by_cases q0:r=65533
 ·subst q0;exact EN w
 by_cases q1:r < 2048
 ·exact EM r h0 q1 w
 by_cases q2:r < 65536
 ·exact BU r (by omega) q2 h1 q0 w
 ·exact Eb r (by omega) h2 w
theorem Oy (s:ByteArray)(pos:Nat)(h:pos < s.size)(ha:128≤bz s pos):pos+(Utf8.decode s pos).2≤s.size∧∀j,pos≤j→j < pos+(Utf8.decode s pos).2→128≤bz s j:=by
 have hj:∀j w,w≤4→pos≤j→j < pos+w→(w≤1∨128≤bz s (pos+1))→(w≤2∨128≤bz s (pos+2))→(w≤3∨128≤bz s (pos+3))→128≤bz s j:=by
  intro j w hw h1 h2 c1 c2 c3
  rcases(show j=pos∨j=pos+1∨j=pos+2∨j=pos+3 by omega) with rfl | rfl | rfl | rfl
  ·exact ha
  ·rcases c1 with c | c
   ·omega
   ·exact c
  ·rcases c2 with c | c
   ·omega
   ·exact c
  ·rcases c3 with c | c
   ·omega
   ·exact c
 rw [yJ]
 change _∧∀j,_→j < pos+(Lib.decodeN (s.size - pos) (bz s pos) (bz s (pos+1)) (bz s (pos+2)) (bz s (pos+3))).2→_
 have key:∀w,(Lib.decodeN (s.size - pos) (bz s pos) (bz s (pos+1)) (bz s (pos+2)) (bz s (pos+3))).2=w→w≤4∧pos+w≤s.size∧(w≤1∨128≤bz s (pos+1))∧(w≤2∨128≤bz s (pos+2))∧(w≤3∨128≤bz s (pos+3)):=by
  intro w hw
  subst hw
  generalize bz s pos=b0 at *
  generalize bz s (pos+1)=b1 at *
  generalize bz s (pos+2)=b2 at *
  generalize bz s (pos+3)=b3 at *
  unfold Lib.decodeN
  repeat' split
  all_goals (simp only [];omega)
 obtain⟨k1,k2,k3,k4,k5⟩:=key _ rfl
 exact⟨k2,fun j h1 h2=>hj j _ k1 h1 h2 k3 k4 k5⟩
def xe:List UInt8:=[9,10,12,13,32,47,62]
theorem Ri (x:UInt8)(h:128≤x.toNat):xe.contains x=false:=by
 unfold xe
 simp only [List.contains_cons,List.contains_nil,WW,Yj,eY]
 refine⟨?_,?_,?_,?_,?_,?_,?_⟩ <;> (rintro rfl;revert h;decide)
theorem KT (s:ByteArray)(pos:Nat)(hno:Lib.NoAny s.data.toList xe pos)(w:Nat)(hb:∀j,pos≤j→j < pos+w→128≤bz s j)(hw:pos+w≤s.size):Lib.NoAny s.data.toList xe (pos+w):=by
 intro j b hj hjb
 by_cases h:j < pos
 ·exact hno j b h hjb
 ·have:=hb j (by omega) hj
  refine Ri b ?_
  rw [Nv s j (by omega)] at this
  have e:s.data.toList[j]? = some (s[j]'(by omega)):=Xa s j (by omega)
  rw [e] at hjb
  cases hjb
  exact this
theorem Ec (s:ByteArray)(w:World)(h8:s.size≤8) :
  Calls Tryz.prog 126 #[.string s,.string ⟨#[9,10,12,13,32,47,62]⟩] w fun e w'=>e=.returned (.int .i64 (Lib.indexAny s.data.toList xe))∧Below w.heap.size w w':=by
 have h8z:decide ((8:Int) < (s.size:Int))=false:=eP (by omega)
 have HU:=ae (fun wx=>Tryz.strings_shouldUseASCIISet (s.size:Int) wx)
 simp only [h8z] at HU
 have HIA:=ae (fun(x:UInt8) (hx:x.toNat < 128) wx=>Tryz.strings_IndexRune_ascii ⟨#[9,10,12,13,32,47,62]⟩ (x.toNat:Int) wx (by omega) (by omega))
 have HIH:=ae (fun r h0 h1 h2 wx=>EO r h0 h1 h2 wx)
 have hsp:(⟨#[9,10,12,13,32,47,62]⟩:ByteArray).data.toList=xe:=rfl
 have h7:(⟨#[9,10,12,13,32,47,62]⟩:ByteArray).size=7:=rfl
 have hne:((⟨#[9,10,12,13,32,47,62]⟩:ByteArray).toList == [])=false:=by rw [oh];rfl
 have hne2:(⟨#[9,10,12,13,32,47,62]⟩:ByteArray).toList≠[]:=by rw [oh];decide
 have hsp2:([9,10,12,13,32,47,62]:List UInt8)=xe:=rfl
 generalize hch:(⟨#[9,10,12,13,32,47,62]⟩:ByteArray)=ch at *
 simp only [hsp] at HIA
 clear hsp2
 go_enter Tryz.func126,Tryz.ntmps126
 go_wp2_with fail
 refine(HU.out _).mono ?_
 rintro e w1 ⟨rfl,hw⟩
 subst w1
 go_wp2_with fail
 go_loopw [9,10] (fun _ _ wr=>∃pos:Nat,pos≤s.size∧wr.heap[w.heap.size]? = some (.stringIter s pos)∧Below w.heap.size w wr∧Lib.NoAny s.data.toList xe pos) (fun _ _ wr=>s.size - wr.iterPos w.heap.size)
 case atStart =>
  refine⟨0,by omega,?_,(ak _ w).alloc (au _) _,Lib.NoAny.zero _ _⟩
  have:=Xt w s 0
  simpa using this
 case round =>
  obtain⟨pos,hpos,hit,hb,hno⟩:=hrel
  have HN:=ae hno
  clear hno
  by_cases hp:pos < s.size
  ·have hnx:∀ty,(Instr.next (.pointer (some ⟨w.heap.size,0,none⟩)) true ty).run Tryz.prog wr=_:=fun ty=>Ac wr w.heap.size s pos ty hit hp
   have hxl:s.data.toList[pos]? = some (s[pos]'hp):=Xa s pos hp
   by_cases ha:(s[pos]'hp).toNat < 128
   ·rw [decode_ascii s pos hp ha] at hnx
    have hit2:=Ad wr w.heap.size s pos (pos+1) hit
    have hbw2:=xm hb (k:=w.heap.size) (by omega) s (pos+1)
    generalize hx:s[pos]'hp=x at *
    have hcon:=Lib.contains_iff_indexByte xe x
    have hback:((x.toNat:Int)).toNat.toUInt8=x:=by simp
    have HI:=ae (fun wx=>HIA.out x ha wx)
    simp only [hback] at HI
    cases hin:xe.contains x
    ·rw [hin] at hcon
     have hlt:¬((0:Int)≤Lib.indexByte xe x):=of_decide_eq_false hcon.symm
     have HX:=ae hxl
     have HIn:=ae hin
     clear hcon hxl hin
     go_wp2_with fail
     refine(HI.out _).mono ?_
     rintro e w3 ⟨rfl,hw⟩
     subst w3
     go_wp2_with fail
     refine⟨⟨pos+1,by omega,hit2,hbw2,HN.out.succ HX.out HIn.out⟩,?_⟩
     simp only [World.iterPos,hit2,hit]
     omega
    ·rw [hin] at hcon
     have hge:(0:Int)≤Lib.indexByte xe x:=tq hcon.symm
     have HX:=ae hxl
     have HIn:=ae hin
     clear hcon hxl hin
     go_wp2_with fail
     refine(HI.out _).mono ?_
     rintro e w3 ⟨rfl,hw⟩
     subst w3
     go_wp2_with fail
     go_ret
     exact⟨by rw [Lib.indexAny_hit HN.out HX.out HIn.out];rfl,hbw2⟩
   ·have hz:128≤bz s pos:=by rw [Nv s pos hp];omega
    obtain⟨hle,hbs⟩:=Oy s pos hp hz
    have hw:=width_pos s pos hp
    obtain⟨hs1,hs2⟩:=Em s pos
    have hhi:=(decode_high s pos hp (by omega)).1
    have hit2:=Ad wr w.heap.size s pos (pos+(Utf8.decode s pos).2) hit
    have hbw2:=xm hb (k:=w.heap.size) (by omega) s (pos+(Utf8.decode s pos).2)
    have HI:=ae (fun wx=>HIH.out ((Utf8.decode s pos).1:Int) (by omega) (by omega) (by omega) wx)
    have HNN:=ae (KT s pos HN.out _ hbs hle)
    clear hbs hxl
    go_wp2_with fail
    refine(HI.out _).mono ?_
    rintro e w3 ⟨rfl,hb3⟩
    have hit3:w3.heap[w.heap.size]? = some (.stringIter s (pos+(Utf8.decode s pos).2)):=(hb3.block _ (zA hit2)).trans hit2
    go_wp2_with fail
    refine⟨⟨_,hle,hit3,hbw2.trans (hb3.mono hbw2.size),HNN.out⟩,?_⟩
    simp only [World.iterPos,hit3,hit]
    omega
  ·have hnx:∀ty,(Instr.next (.pointer (some ⟨w.heap.size,0,none⟩)) true ty).run Tryz.prog wr=_:=fun ty=>Aa wr w.heap.size s pos ty hit hp
   obtain rfl:pos=s.size:=by omega
   go_wp2_with fail
   go_ret
   exact⟨by rw [Lib.indexAny_none (by rw [Array.length_toList];exact HN.out)];rfl,hb⟩
theorem Hz (s:ByteArray)(w:World)(hs:s.size≤1000000) :
  Calls Tryz.prog 126 #[.string s,.string ⟨#[9,10,12,13,32,47,62]⟩] w fun e w'=>e=.returned (.int .i64 (Lib.indexAny s.data.toList xe))∧Below w.heap.size w w':=by
 by_cases h8:s.size≤8
 ·exact Ec s w h8
 ·refine(Tryz.strings_IndexAny_long (zero_of_info (v:=.agg (Array.replicate 256 (.bool false))) (n:=256) (by kernel_rfl)).1 s ⟨#[9,10,12,13,32,47,62]⟩ w (by decide) (by omega) (by omega) (by decide) (ascii_of (by decide))).mono ?_
  rintro e w' ⟨rfl,rfl⟩
  exact⟨rfl,((ak _ _).alloc (au _) _).alloc (by simp) _⟩
theorem uN (s:ByteArray)(w:World)(hs:s.size≤1000000) :
  Calls Tryz.prog 106 #[.string s,.string ⟨#[9,10,12,13,32,47,62]⟩] w fun e w'=>e=.returned (.bool (Lib.containsAny s.data.toList xe))∧Below w.heap.size w w':=by
 have HI:=ae (Hz s w hs)
 go_enter Tryz.func106,Tryz.ntmps106
 go_wp2_with fail
 refine HI.out.mono ?_
 rintro e w1 ⟨rfl,hb⟩
 go_wp2_with fail
 go_ret
 exact⟨rfl,hb⟩
end Go.Proofs.YtfelmdkeaacfeaaGreatDoor.W
end
