/- Texts joined: Dp TwA EqA LwM MFn UnP. -/
import Derived.Test.YtfelmdkeaacfeaaGreatDoorTB41
import Derived.Test.YtfelmdkeaacfeaaGreatDoorTB43
set_option maxRecDepth 100000
set_option maxHeartbeats 40000000
set_option linter.unusedVariables false
set_option linter.unusedSimpArgs false
section
namespace Go.Proofs.YtfelmdkeaacfeaaGreatDoor.W
open Go
theorem OH {S K d}(h:Lk S K d){p k:Nat}(hk:k∈K p)(f:Nat):mX S k f (some p)=false :=
 Bd h (fun z=>d z≤d p) (fun x y hx hz=>by have:=h.qc y x hx;omega) (by have:=h.qc p k hk;omega) f _ (fun x hx=>by cases hx;exact au _)
end Go.Proofs.YtfelmdkeaacfeaaGreatDoor.W
end
section
namespace Go.Proofs.YtfelmdkeaacfeaaGreatDoor.W
open Go.RowKit
section
variable {ex : Prop} {E : Nat → Prop} {c : Nat} {S : Tr} {K : Nat → List Nat} {d : Nat → Nat} {M : List MN} {σ : Nat → Nat}
theorem iP.Qd (T:iP c S K d){p k:Nat}{nk:Nd}(hk:k∈K p)(hn:S.at k=some nk):nk.kind≠1 :=
 T.other k nk hn (fun e=>by subst e;exact T.vN p hk)
theorem iP.may (T:iP c S K d){p k:Nat}{np nk:Nd}(hk:k∈K p)(hp:S.at p=some np)(hn:S.at k=some nk):nU S K d p k np nk=true:=by
 have h1:=T.Qd hk hn
 have h2:=OH T.lk hk (d p)
 have e1:(nk.kind == 1)=false:=by simpa using h1
 unfold nU
 rw [e1,h2]
 rcases T.J4 p np hp with h | h | ⟨h,h3,h4⟩
 ·rw [h] at hk;cases hk
 ·simp [h]
 ·rcases h3 k nk hk hn with e | e
  ·have:(K p).any (oV S k)=false:=by
    rw [XG]
    intro x hx
    unfold oV
    by_cases exk:x=k
    ·simp [exk]
    ·cases hxn:S.at x with
     | none=>simp
     | some n =>
      by_cases e2:n.kind=2
      ·exact absurd (h4 x k n nk hx hk hxn hn e2 e) exk
      ·simp [e2]
   simp [h,e,this]
  ·simp [h,e]
end
end Go.Proofs.YtfelmdkeaacfeaaGreatDoor.W
end
section
namespace Go.Proofs.YtfelmdkeaacfeaaGreatDoor.W
open Go.RowKit
theorem Zc {w:World}{v:Value}{l:List jR}{e:TypeId}(h:Own w e 2 v l.length (cu l)){j:Nat}{a:jR}(hj:l[j]? = some a):∃g c,v=.slice (some ⟨g,0,none⟩) l.length c∧w.cell? ⟨g,j*2,none⟩=some (dA a.1)∧w.cell? ⟨g,j*2+1,none⟩=some (dA a.2):=by
 have hk:=(ai.1 hj).1
 obtain⟨g,c,rfl,_⟩:=sK h (by omega)
 obtain⟨h1,h2⟩:=kz l j a hj
 exact⟨g,c,rfl,by rw [h.cellAt (j*2) (by omega),uT j 2];exact h1,by rw [h.cellAt (j*2+1) (by omega),uT j 2];exact h2⟩
def WH (w:World)(n:Nat)(iv:Value)(wr:World):Prop:=∃i:Nat,i≤n∧iv=.int .i64 (i:Int)∧Below w.heap.size w wr
end Go.Proofs.YtfelmdkeaacfeaaGreatDoor.W
end
section
namespace Go.Proofs.YtfelmdkeaacfeaaGreatDoor.W
open Go.RowKit
theorem UW.below {w w':World}{A:Option Addr}{n:Nat}{f:Nat→ou}(h:UW w A n f)(hb:Below w.heap.size w w'):UW w' A n f:=fun hn=>by
 obtain⟨b,off,e,hl,hc⟩:=h hn
 refine⟨b,off,e,aO hl hb.size,fun j hj=>?_⟩
 obtain⟨h0,h1,h2,h3,h4,h5,h6,h7⟩:=hc j hj
 exact⟨aU hb h0,aU hb h1,aU hb h2,aU hb h3,aU hb h4,aU hb h5,aU hb h6,aU hb h7⟩
theorem ou.In.ok {o:ou}(h:o.In)(h1:o.s.length≤40∧o.t.length≤40):o.Ok:=⟨h.k,h.a,h.b,h.c,h1.1,h1.2,h.n,h.kk⟩
end Go.Proofs.YtfelmdkeaacfeaaGreatDoor.W
end
section
namespace Go.Proofs.YtfelmdkeaacfeaaGreatDoor.W
open Go.RowKit
theorem MW.uniq {M:List MN}{D D':Nat→Nat}(h:MW M D)(h':MW M D'):∀(n i:Nat) (m:MN),D i=n→lv M i=some m→D' i=D i
 | n,i,m,hn,hi=>by
  cases e:m.par with
  | none=>rw [h.top i m hi e,h'.top i m hi e]
  | some p =>
   obtain⟨mp,h1,h2,h3⟩:=h.par i m p hi e
   obtain⟨_,_,_,h4⟩:=h'.par i m p hi e
   rw [h3,h4,MW.uniq h h' (D p) p mp rfl h1]
termination_by n => n
decreasing_by omega
theorem Yq {l:List Nat}(h:l.Nodup){i j c:Nat}(hi:l[i]? = some c)(hj:l[j]? = some c):i=j :=
 (iK (ai.1 hi).1 h).1 (hi.trans hj.symm)
theorem Yy {l:List Nat}(h:l.Nodup){c:Nat}{o:Option Nat}{i j:Nat}(hi:(o=none∧i=l.length)∨(∃b,o=some b∧b≠c∧l[i]? = some b))(hj:(o=none∧j=l.length)∨(∃b,o=some b∧b≠c∧l[j]? = some b)):i=j:=by
 rcases hi with ⟨e,rfl⟩ | ⟨b,e,_,h1⟩ <;> rcases hj with ⟨e',rfl⟩ | ⟨b',e',_,h2⟩
 ·rfl
 ·rw [e] at e';cases e'
 ·rw [e] at e';cases e'
 ·rw [e] at e';cases e';exact Yq h h1 h2
theorem JX.fn {M:List MN}{D:Nat→Nat}(hW:MW M D){p c:Nat}{o:Option Nat}{mc:MN}{M1 M2:List MN}{r1 r2:List Rc}(h1:JX M p c o mc M1 r1)(h2:JX M p c o mc M2 r2):M1=M2∧r1=r2:=by
 cases h1 with
 | det mp j a1 a2 a3 =>
  cases h2 with
  | det mp' j' b1 b2 b3 =>
   rw [a2] at b2;cases b2
   obtain rfl:=Yy (hW.nd p mp a2) a3 b3
   exact⟨rfl,rfl⟩
  | sF q i j' mq mp' o' b1 _ _ _ _ _=>rw [a1] at b1;cases b1
 | sF q i j mq mp o' a1 a2 a3 a4 a5 a6 =>
  cases h2 with
  | det mp' j' b1 _ _=>rw [a1] at b1;cases b1
  | sF q' i' j' mq' mp' o2 b1 b2 b3 b4 b5 b6 =>
   rw [a1] at b1;cases b1
   rw [a2] at b2;cases b2
   obtain rfl:=Yq (hW.nd q mq a2) a3 b3
   rw [a4] at b4;cases b4
   rw [← a5] at b5;subst b5
   obtain⟨m0,e1,e2⟩:=oG a4
   have hnd:mp.kids.Nodup:=by
    rw [e2]
    show(if p=q then m0.kids.eraseIdx i else m0.kids).Nodup
    split
    ·exact(hW.nd p m0 e1).sublist (lT _ _)
    ·exact hW.nd p m0 e1
   obtain rfl:=Yy hnd a6 b6
   exact⟨rfl,rfl⟩
theorem JW.fn {M:List MN}{D:Nat→Nat}(hW:MW M D){c:Nat}{mc:MN}{M1 M2:List MN}{r1 r2:List Rc}{e1 e2:Int}(h1:JW M c mc M1 r1 e1)(h2:JW M c mc M2 r2 e2):M1=M2∧r1=r2:=by
 cases h1 with
 | doc h =>
  cases h2 with
  | doc _=>exact⟨rfl,rfl⟩
  | top h0 _=>exact absurd h h0
  | cut _ _ _ h0 _ _ _=>exact absurd h h0
 | top h0 h =>
  cases h2 with
  | doc h'=>exact absurd h' h0
  | top _ _=>exact⟨rfl,rfl⟩
  | cut q i mq _ b1 _ _=>rw [h] at b1;cases b1
 | cut q i mq h0 a1 a2 a3 =>
  cases h2 with
  | doc h'=>exact absurd h' h0
  | top _ b=>rw [a1] at b;cases b
  | cut q' i' mq' _ b1 b2 b3 =>
   rw [a1] at b1;cases b1
   rw [a2] at b2;cases b2
   obtain rfl:=Yq (hW.nd q mq a2) a3 b3
   exact⟨rfl,rfl⟩
theorem zW.fn {M : List MN} {h : Nat} {mh : MN} {nm v : List UInt8} {M1 M2 : List MN} {r1 r2 : List Rc} {e1 e2 : Int} (h1 : zW M h mh nm v M1 r1 e1) (h2 : zW M h mh nm v M2 r2 e2) : M1 = M2 ∧ r1 = r2 := by
  cases h1 <;> cases h2 <;> first
    | exact ⟨rfl, rfl⟩
    | contradiction
    | omega
    | (rename_i k y _ _ a3 a4 k' y' _ _ b b2
       obtain rfl : k = k' := by omega
       rw [a4] at b2; cases b2
       exact ⟨rfl, rfl⟩)
    | simp_all
theorem Ci.fn {M : List MN} {h : Nat} {mh : MN} {nm : List UInt8} {M1 M2 : List MN} {r1 r2 : List Rc} {e1 e2 : Int} (h1 : Ci M h mh nm M1 r1 e1) (h2 : Ci M h mh nm M2 r2 e2) : M1 = M2 ∧ r1 = r2 := by
  cases h1 <;> cases h2 <;> first
    | exact ⟨rfl, rfl⟩
    | contradiction
    | omega
    | (rename_i k y _ a3 a4 k' y' _ b b2
       obtain rfl : k = k' := by omega
       rw [a4] at b2; cases b2
       exact ⟨rfl, rfl⟩)
theorem Ce.fn {M:List MN}{h:Nat}{mh:MN}{ix cnt:Int}{s:List UInt8}{M1 M2:List MN}{r1 r2:List Rc}{e1 e2:Int}(h1:Ce M h mh ix cnt s M1 r1 e1)(h2:Ce M h mh ix cnt s M2 r2 e2):M1=M2∧r1=r2:=by
 cases h1 <;> cases h2 <;> first
  | exact⟨rfl,rfl⟩
  | omega
theorem Cf.fn {M:List MN}{kind:Int}{nm dt:List UInt8}{al:List jR}{M1 M2:List MN}{e1 e2:Int}(h1:Cf M kind nm dt al M1 e1)(h2:Cf M kind nm dt al M2 e2):M1=M2:=by
 cases h1 <;> cases h2 <;> first
  | rfl
  | contradiction
  | simp_all
theorem JY.fn {M:List MN}{D D':Nat→Nat}{c:Nat}{mc:MN}{M1 M2:List MN}{e1 e2:Int}(hd:D' c=D c)(h1:JY M D c mc M1 e1)(h2:JY M D' c mc M2 e2):M1=M2:=by
 cases h1 with
 | no a =>
  cases h2 with
  | no _=>rfl
  | yes b0 b=>rcases a with a | a;exact absurd a b0;exact absurd b a
 | yes a0 a =>
  cases h2 with
  | no b=>rcases b with b | b;exact absurd b a0;exact absurd a b
  | yes _ _=>rw [hd]
theorem L8.fn {M:List MN}{D D':Nat→Nat}{deep:Bool}{c:Nat}{mc:MN}{M1 M2:List MN}{e1 e2:Int}(hd:D' c=D c)(h1:L8 M D deep c mc M1 e1)(h2:L8 M D' deep c mc M2 e2):M1=M2:=by
 cases h1 <;> cases h2 <;> first
  | rfl
  | contradiction
  | (rw [hd];done)
  | simp_all
theorem zX.fn {M:List MN}{D D':Nat→Nat}(hW:MW M D){p c:Nat}{o:Option Nat}{mp mc:MN}(hp:D' p=D p)(hc:D' c=D c){M1 M2:List MN}{r1 r2:List Rc}{e1 e2:Int}(h1:zX M D p c o mp mc M1 r1 e1)(h2:zX M D' p c o mp mc M2 r2 e2):M1=M2∧r1=r2:=by
 have hm:zt M D' p c mp mc=zt M D p c mp mc:=by unfold zt;rw [hp]
 cases h1 with
 | no a =>
  cases h2 with
  | no _=>exact⟨rfl,rfl⟩
  | other _ _ b _ _ _=>rw [hm,a] at b;cases b
  | far _ _ _=>exact⟨rfl,rfl⟩
  | ok _ _ b _ _ _=>rw [hm,a] at b;cases b
 | other b0 mb a e hb hpb =>
  cases h2 with
  | no b=>exact⟨rfl,rfl⟩
  | other _ _ _ _ _ _=>exact⟨rfl,rfl⟩
  | far _ _ _=>exact⟨rfl,rfl⟩
  | ok _ _ _ ho _ _ =>
   obtain⟨mb',g1,g2⟩:=ho b0 e
   rw [hb] at g1;cases g1
   exact absurd g2 hpb
 | far a ho hd =>
  cases h2 with
  | no b=>exact⟨rfl,rfl⟩
  | other _ _ _ _ _ _=>exact⟨rfl,rfl⟩
  | far _ _ _=>exact⟨rfl,rfl⟩
  | ok _ _ _ _ hd' _=>rw [hp,hc] at hd';omega
 | ok _ _ a ho hd hm1 =>
  cases h2 with
  | no b=>rw [hm,a] at b;cases b
  | other b0 mb _ e hb hpb =>
   obtain⟨mb',g1,g2⟩:=ho b0 e
   rw [hb] at g1;cases g1
   exact absurd g2 hpb
  | far _ _ hd'=>rw [hp,hc] at hd';omega
  | ok _ _ _ _ _ hm2=>exact hm1.fn hW hm2
theorem uP.fn {M:List MN}{D D':Nat→Nat}(hW:MW M D)(hW':MW M D'){o:ou}{M1 M2:List MN}{r1 r2:List Rc}(h1:uP M D o M1 r1)(h2:uP M D' o M2 r2):M1=M2∧r1=r2:=by
 have hd:∀i m,lv M i=some m→D' i=D i:=fun i m hi=>MW.uniq hW hW' (D i) i m rfl hi
 have bad:lv M (o.iA M.length)=none∨(o.k % 10=3∧(lv M (o.iB M.length)=none∨∃q,o.iC M.length=some q∧lv M q=none))→∀{ma},lv M (o.iA M.length)=some ma→(o.k % 10=3→(∃mb,lv M (o.iB M.length)=some mb)∧∀q,o.iC M.length=some q→∃mq,lv M q=some mq)→False:=fun h ma ha hh=>by
  rcases h with h | ⟨hk,h | ⟨q,hq,h⟩⟩
  ·rw [ha] at h;cases h
  ·obtain⟨⟨mb,hb⟩,_⟩:=hh hk
   rw [hb] at h;cases h
  ·obtain⟨mq,hmq⟩:=(hh hk).2 q hq
   rw [hmq] at h;cases h
 cases h1 with
 | make _ _ hk hm =>
  cases h2 with
  | make _ _ _ hm'=>exact⟨hm.fn hm',rfl⟩
  | _=>omega
 | off hk h =>
  cases h2 with
  | off _ _=>exact⟨rfl,rfl⟩
  | ins _ mb _ _ _ hk' ha hb hc _=>exact(bad h ha (fun _=>⟨⟨mb,hb⟩,hc⟩)).elim
  | rem _ _ _ _ hk' ha _=>exact(bad h ha (fun _=>by omega)).elim
  | Rk _ _ _ _ hk' ha _=>exact(bad h ha (fun _=>by omega)).elim
  | Sl _ _ _ _ hk' ha _=>exact(bad h ha (fun _=>by omega)).elim
  | rep _ _ _ _ hk' ha _=>exact(bad h ha (fun _=>by omega)).elim
  | cpy _ _ _ hk' ha _=>exact(bad h ha (fun _=>by omega)).elim
  | dro _ _ _ hk' ha _=>exact(bad h ha (fun _=>by omega)).elim
  | _=>omega
 | ins _ mb _ _ _ hk ha hb hc hm =>
  cases h2 with
  | off _ h=>exact(bad h ha (fun _=>⟨⟨mb,hb⟩,hc⟩)).elim
  | ins _ _ _ _ _ _ ha' hb' _ hm' =>
   rw [ha] at ha';cases ha'
   rw [hb] at hb';cases hb'
   exact hm.fn hW (hd _ _ hb) (hd _ _ ha) hm'
  | _=>omega
 | rem _ _ _ _ hk ha hm =>
  cases h2 with
  | off _ h=>exact(bad h ha (fun _=>by omega)).elim
  | rem _ _ _ _ _ ha' hm'=>rw [ha] at ha';cases ha';exact hm.fn hW hm'
  | _=>omega
 | Rk _ _ _ _ hk ha hm =>
  cases h2 with
  | off _ h=>exact(bad h ha (fun _=>by omega)).elim
  | Rk _ _ _ _ _ ha' hm'=>rw [ha] at ha';cases ha';exact hm.fn hm'
  | _=>omega
 | Sl _ _ _ _ hk ha hm =>
  cases h2 with
  | off _ h=>exact(bad h ha (fun _=>by omega)).elim
  | Sl _ _ _ _ _ ha' hm'=>rw [ha] at ha';cases ha';exact hm.fn hm'
  | _=>omega
 | rep _ _ _ _ hk ha hm =>
  cases h2 with
  | off _ h=>exact(bad h ha (fun _=>by omega)).elim
  | rep _ _ _ _ _ ha' hm'=>rw [ha] at ha';cases ha';exact hm.fn hm'
  | _=>omega
 | cpy _ _ _ hk ha hm =>
  cases h2 with
  | off _ h=>exact(bad h ha (fun _=>by omega)).elim
  | cpy _ _ _ _ ha' hm'=>rw [ha] at ha';cases ha';exact⟨hm.fn (hd _ _ ha) hm',rfl⟩
  | _=>omega
 | dro _ _ _ hk ha hm =>
  cases h2 with
  | off _ h=>exact(bad h ha (fun _=>by omega)).elim
  | dro _ _ _ _ ha' hm'=>rw [ha] at ha';cases ha';exact⟨hm.fn (hd _ _ ha) hm',rfl⟩
  | _=>omega
end Go.Proofs.YtfelmdkeaacfeaaGreatDoor.W
end
section
namespace Go.Proofs.YtfelmdkeaacfeaaGreatDoor.W
open Go.RowKit
structure Yp (M N:List MN):Prop where
 len:N.length=M.length
 node:∀i m,lv M i=some m→∃n,lv N i=some n∧n.kind=m.kind∧n.data=m.data∧n.par=m.par∧n.kids=m.kids∧n.attrs.Perm m.attrs
 live:∀i n,lv N i=some n→∃m,lv M i=some m
theorem Yp.refl (M:List MN):Yp M M:=⟨rfl,fun i m h=>⟨m,h,rfl,rfl,rfl,rfl,List.Perm.refl _⟩,fun i n h=>⟨n,h⟩⟩
theorem Yp.put {M:List MN}{h:Nat}{mh:MN}(hh:lv M h=some mh)(al:List jR)(hp:al.Perm mh.attrs):Yp M (M.set h { mh with attrs:=al }):=by
 refine⟨by simp,fun i m hi=>?_,fun i n hi=>?_⟩
 rotate_left
 ·by_cases e:i=h
  ·subst e;exact⟨mh,hh⟩
  ·refine⟨n,?_⟩
   unfold lv at hi ⊢
   rw [jM (fun h=>e h.symm)] at hi
   exact hi
 by_cases e:i=h
 ·subst e
  rw [hh] at hi;cases hi
  have hl:=(ai.1 (lV hh).1).1
  exact⟨{ mh with attrs:=al },DX (by rw [dH,aC rfl,aC hl]) (lV hh).2,rfl,rfl,rfl,rfl,hp⟩
 ·refine⟨m,?_,rfl,rfl,rfl,rfl,List.Perm.refl _⟩
  unfold lv;rw [jM (fun h=>e h.symm)];exact hi
theorem YY {l:List Nat}{j c:Nat}(h:j≤l.length):(l.take j ++ c :: l.drop j).eraseIdx j=l:=by
 have h1:(l.take j).length=j:=by rw [fC];omega
 rw [List.eraseIdx_append_of_length_le (by omega),h1,jY,List.eraseIdx_cons_zero,bG]
theorem YX {l:List Nat}{i c:Nat}(h:l[i]? = some c):(l.eraseIdx i).take i ++ c :: (l.eraseIdx i).drop i=l:=by
 have hl:=(ai.1 h).1
 have h1:(l.take i).length=i:=by rw [fC];omega
 rw [jU,XO (by omega),sZ (by omega),List.drop_append_of_le_length (by omega),List.drop_of_length_le (by omega),List.nil_append]
 have h2:l.drop i=c :: l.drop (i+1):=by
  rw [qA hl]
  rw [ay hl] at h
  cases h;rfl
 rw [← h2,bG]
theorem YG {M:List MN}{p j c:Nat}(hp:∀m,M[p]? = some m→j≤m.kids.length)(hc:∀m,M[c]? = some m→m.par=none):uH (oU M p j c) p j c=M:=by
 apply gu
 intro x
 unfold uH oU
 rw [dB,dB]
 cases e:M[x]? with
 | none=>rfl
 | some m =>
  have h1:x=p→(m.kids.take j ++ c :: m.kids.drop j).eraseIdx j=m.kids:=fun hx=>YY (hp m (hx ▸ e))
  have h2:x=c→m.par=none:=fun hx=>hc m (hx ▸ e)
  obtain⟨k,nm,at',dt,pr,ks,g⟩:=m
  simp only [Option.map_some,mY,MN.mk.injEq,je,jX]
  refine⟨?_,?_⟩
  ·by_cases hx:x=c
   ·rw [aC hx];exact(h2 hx).symm
   ·rw [ax hx,ax hx]
  ·by_cases hx:x=p
   ·rw [aC hx,aC hx];exact h1 hx
   ·rw [ax hx,ax hx]
theorem YV {M:List MN}{q i c:Nat}(hq:∀m,M[q]? = some m→m.kids[i]? = some c)(hc:∀m,M[c]? = some m→m.par=some q):oU (uH M q i c) q i c=M:=by
 apply gu
 intro x
 unfold uH oU
 rw [dB,dB]
 cases e:M[x]? with
 | none=>rfl
 | some m =>
  have h1:x=q→(m.kids.eraseIdx i).take i ++ c :: (m.kids.eraseIdx i).drop i=m.kids:=fun hx=>YX (hq m (hx ▸ e))
  have h2:x=c→m.par=some q:=fun hx=>hc m (hx ▸ e)
  obtain⟨k,nm,at',dt,pr,ks,g⟩:=m
  simp only [Option.map_some,mY,MN.mk.injEq,je,jX]
  refine⟨?_,?_⟩
  ·by_cases hx:x=c
   ·rw [aC hx];exact(h2 hx).symm
   ·rw [ax hx,ax hx]
  ·by_cases hx:x=q
   ·rw [aC hx,aC hx];exact h1 hx
   ·rw [ax hx,ax hx]
inductive Bk (M0:List MN):List Rc→List MN→Prop
 | done (Mg:List MN) (h:Yp M0 Mg):Bk M0 [] Mg
 | ins (rs:List Rc) (Mg:List MN) (p c j:Nat) (a b:Int) (mp mc:MN) (hc:lv Mg c=some mc) (h0:c≠0) (hp:mc.par=some p) (hq:lv Mg p=some mp) (hj:mp.kids[j]? = some c) (h:Bk M0 rs (uH Mg p j c)):Bk M0 (rs ++ [Ti p c a b j]) Mg
 | rem (q c i:Nat) (a:Int) (mq mc:MN) (hc:lv M0 c=some mc) (h0:c≠0) (hp:mc.par=some q) (hq:lv M0 q=some mq) (hi:mq.kids[i]? = some c):Bk M0 [Ub q c a (pI mq.kids[i+1]?) i] (uH M0 q i c)
 | new (h:Nat) (mh:MN) (name val:List UInt8) (hh:lv M0 h=some mh) (hk:mh.kind=2) (h1:mJ mh.attrs name=-1):Bk M0 [Ae h name [] false] (M0.set h { mh with attrs:=mh.attrs ++ [(name,val)] })
 | old (h k:Nat) (mh:MN) (y:jR) (al:List jR) (hh:lv M0 h=some mh) (hk:mh.kind=2) (hy:mh.attrs[k]? = some y) (ha:al=mh.attrs.eraseIdx k∨∃v,al=mh.attrs.set k (y.1,v)):Bk M0 [Ae h y.1 y.2 true] (M0.set h { mh with attrs:=al })
 | data (h:Nat) (mh:MN) (dt:List UInt8) (ix cnt sz:Int) (hh:lv M0 h=some mh) (hk:3≤mh.kind):Bk M0 [⟨4,h,-1,-1,-1,ix,[],mh.data,false,cnt,sz⟩] (M0.set h { mh with data:=dt })
section
variable {M : List MN} {D : Nat → Nat}
theorem Zg {p c:Nat}{mp mc:MN}(h:zt M D p c mp mc=true):c≠0:=by
 rintro rfl
 unfold zt at h
 rw [aC (.inl rfl)] at h;cases h
theorem YH {l:List Nat}{c j:Nat}{o:Option Nat}(h:(o=none∧j=l.length)∨(∃b,o=some b∧b≠c∧l[j]? = some b)):j≤l.length:=by
 rcases h with ⟨_,rfl⟩ | ⟨b,_,_,h⟩
 ·exact au _
 ·have:=(ai.1 h).1;omega
theorem YN {l:List Nat}{j c:Nat}(h:j≤l.length):(l.take j ++ c :: l.drop j)[j]? = some c:=by
 have h1:(l.take j).length=j:=by rw [fC];omega
 rw [bZ (by omega),h1,jY];rfl
theorem Zi (hW:MW M D){o:ou}{M1:List MN}{rs:List Rc}(h3:3≤o.k % 10)(h7:o.k % 10≤7)(hst:uP M D o M1 rs):Bk M rs M1:=by
 cases hst with
 | make _ _ hk _=>omega
 | off _ _=>exact .done _ (.refl _)
 | ins ma mb M' rs en hk ha hb hc hm =>
  cases hm with
  | no _=>exact .done _ (.refl _)
  | other _ _ _ _ _ _=>exact .done _ (.refl _)
  | far _ _ _=>exact .done _ (.refl _)
  | ok M' rs hmay ho hd hmi =>
   have h0:=Zg hmay
   cases hmi with
   | det mp j h1 h2 h3 =>
    have hjl:=YH h3
    have e1:uH (oU M (o.iB M.length) j (o.iA M.length)) (o.iB M.length) j (o.iA M.length)=M :=
     YG (fun m hm=>by rw [(lV h2).1] at hm;cases hm;exact hjl) (fun m hm=>by rw [(lV ha).1] at hm;cases hm;exact h1)
    have e2:=uo (p:=o.iB M.length) (j:=j) (c:=o.iA M.length) ha
    have e3:=uo (p:=o.iB M.length) (j:=j) (c:=o.iA M.length) h2
    exact Bk.ins [] _ _ _ j _ _ _ _ e2 h0 (by show(if _ then _ else _)=_;rw [aC rfl]) e3 (by show(if _ then _ else _)[j]? = _;rw [aC rfl];exact YN hjl) (by rw [e1];exact .done _ (.refl _))
   | sF q i j mq mp o' h1 h2 h3 h4 h5 h6 =>
    have hjl:=YH h6
    have hca:=uq (p:=q) (j:=i) (c:=o.iA M.length) ha
    have e1:uH (oU (uH M q i (o.iA M.length)) (o.iB M.length) j (o.iA M.length)) (o.iB M.length) j (o.iA M.length)=uH M q i (o.iA M.length) :=
     YG (fun m hm=>by rw [(lV h4).1] at hm;cases hm;exact hjl) (fun m hm=>by rw [(lV hca).1] at hm;cases hm;show(if _ then _ else _)=_;rw [aC rfl])
    have e2:=uo (p:=o.iB M.length) (j:=j) (c:=o.iA M.length) hca
    have e3:=uo (p:=o.iB M.length) (j:=j) (c:=o.iA M.length) h4
    exact Bk.ins [Ub q (o.iA M.length) _ _ i] _ _ _ j _ _ _ _ e2 h0 (by show(if _ then _ else _)=_;rw [aC rfl]) e3 (by show(if _ then _ else _)[j]? = _;rw [aC rfl];exact YN hjl) (by rw [e1];exact .rem q _ i _ mq ma ha h0 h1 h2 h3)
 | rem ma M' rs en hk ha hm =>
  cases hm with
  | doc _=>exact .done _ (.refl _)
  | top _ _=>exact .done _ (.refl _)
  | cut q i mq h0 h1 h2 h3=>exact .rem q _ i _ mq ma ha h0 h1 h2 h3
 | Rk ma M' rs en hk ha hm =>
  cases hm with
  | kind _=>exact .done _ (.refl _)
  | arg _ _=>exact .done _ (.refl _)
  | add h2 _ h1=>exact .new _ ma _ _ ha h2 h1
  | set k y h2 hn h1 hy =>
   have e:=MQ h1 hy
   rw [← e]
   exact .old _ k ma y _ ha h2 hy (.inr ⟨_,rfl⟩)
 | Sl ma M' rs en hk ha hm =>
  cases hm with
  | kind _=>exact .done _ (.refl _)
  | no _ _=>exact .done _ (.refl _)
  | cut k y h2 h1 hy =>
   have e:=MQ h1 hy
   rw [← e]
   exact .old _ k ma y _ ha h2 hy (.inl rfl)
 | rep ma M' rs en hk ha hm =>
  cases hm with
  | kind _=>exact .done _ (.refl _)
  | rng _ _=>exact .done _ (.refl _)
  | yes h2 _ _ _=>exact .data _ ma _ _ _ _ ha h2
 | cpy _ _ _ hk _ _=>omega
 | dro _ _ _ hk _ _=>omega
/-! ### a node that was removed can be put back -/
theorem YF {N:List MN}(hW:MW M D)(hsub:∀x mx,lv N x=some mx→∃m,lv M x=some m∧∀p,mx.par=some p→m.par=some p)(hlv:∀x m,lv M x=some m→∃mx,lv N x=some mx)(a:Nat):∀(f b:Nat) (mb:MN),lv N b=some mb→oQ N a f (some b)=true→D a≤D b
 | 0,_,_,_,h=>by cases h
 | f+1,b,mb,hb,h=>by
  have h':(a == b || oQ N a f (PU N b))=true:=h
  rw [xQ] at h'
  rcases h' with h' | h'
  ·have:=eq_of_beq h';subst this;exact au _
  ·rw [MS hb] at h'
   cases hp:mb.par with
   | none=>rw [hp] at h';cases f <;> cases h'
   | some p =>
    rw [hp] at h'
    obtain⟨m,hm,hs⟩:=hsub b mb hb
    obtain⟨mp,hmp,_,hd⟩:=hW.par b m p hm (hs p hp)
    obtain⟨np,hnp⟩:=hlv p mp hmp
    have:=YF hW hsub hlv a f p np hnp h'
    omega
theorem YP {q i c x:Nat}{mx:MN}(h:lv (uH M q i c) x=some mx):∃m,lv M x=some m∧∀p,mx.par=some p→m.par=some p:=by
 obtain⟨m0,h1,h2⟩:=oG h
 refine⟨m0,h1,fun p hp=>?_⟩
 rw [h2] at hp
 have hp':(if x=c then none else m0.par)=some p:=hp
 split at hp'
 ·cases hp'
 ·exact hp'
theorem YQ {D':Nat→Nat}{q i c:Nat}(hW:MW M D)(hW':MW (uH M q i c) D'):∀(n x:Nat) (mx:MN),D' x=n→lv (uH M q i c) x=some mx→D' x≤D x
 | n,x,mx,hn,hx=>by
  obtain⟨m,hm,hs⟩:=YP hx
  cases hp:mx.par with
  | none=>rw [hW'.top x mx hx hp];exact hW.Sm hm
  | some p =>
   obtain⟨np,hnp,_,hd'⟩:=hW'.par x mx p hx hp
   obtain⟨mp,hmp,_,hd⟩:=hW.par x m p hm (hs p hp)
   have:=YQ hW hW' (D' p) p np rfl hnp
   omega
termination_by n => n
decreasing_by omega
theorem YO {q i c:Nat}(hW:MW M D):∀(f x:Nat) (m:MN),lv M x=some m→hgt (kM (uH M q i c)) f x≤129 - D x
 | 0,x,m,hx=>by have:=hW.low x m hx;show 1≤_;omega
 | f+1,x,m,hx=>by
  have h1:=hW.low x m hx
  show((kM (uH M q i c) x).foldl (fun m k=>max m (hgt (kM (uH M q i c)) f k)) 0)+1≤_
  have:=oI (hgt (kM (uH M q i c)) f) (128 - D x) (kM (uH M q i c) x) 0 (by omega) (fun k hk=>by
   rw [qQ (uq hx)] at hk
   have hk':k∈m.kids:=by
    have hk2:k∈(if x=q then m.kids.eraseIdx i else m.kids):=hk
    split at hk2
    ·exact Ya hk2
    ·exact hk2
   obtain⟨mk,hmk,hpk⟩:=hW.kid x m k hx hk'
   obtain⟨mp,hmp,_,hd⟩:=hW.par k mk x hmk hpk
   have:=YO (q:=q) (i:=i) (c:=c) hW f k mk hmk
   omega)
  omega
theorem Zb {D':Nat→Nat}{q i c:Nat}(hW:MW M D)(hW':MW (uH M q i c) D'){mq mc:MN}(hc:lv M c=some mc)(h0:c≠0)(hp:mc.par=some q)(hq:lv M q=some mq)(hi:mq.kids[i]? = some c)(hmay:zt M D q c mq mc=true) :
  ∃(mq' mc':MN) (rs:List Rc),lv (uH M q i c) q=some mq'∧lv (uH M q i c) c=some mc'∧(∀b,mq.kids[i+1]? = some b→∃mb,lv (uH M q i c) b=some mb)∧zX (uH M q i c) D' q c mq.kids[i+1]? mq' mc' M rs 0:=by
 have hq':=uq (p:=q) (j:=i) (c:=c) hq
 have hc':=uq (p:=q) (j:=i) (c:=c) hc
 have hil:=(ai.1 hi).1
 obtain⟨mp0,hmp0,_,hdc⟩:=hW.par c mc q hc hp
 have hnd:=hW.nd q mq hq
 have hbs:∀b,mq.kids[i+1]? = some b→b≠c∧∃mb,lv (uH M q i c) b=some mb∧mb.par=some q:=fun b hb=>by
  have hbc:b≠c:=fun e=>by
   have:=Yq hnd hb (e ▸ hi)
   omega
  obtain⟨mb,h1,h2⟩:=hW.kid q mq b hq (ah hb)
  refine⟨hbc,_,uq h1,?_⟩
  show(if b=c then none else mb.par)=_
  rw [ax hbc];exact h2
 refine⟨_,_,[Ti q c (pI (pv (if q=q then mq.kids.eraseIdx i else mq.kids) i)) (pI (if q=q then mq.kids.eraseIdx i else mq.kids)[i]?) i],hq',hc',fun b hb=>by obtain⟨_,mb,h,_⟩:=hbs b hb;exact⟨mb,h⟩,?_⟩
 have hM:oU (uH M q i c) q i c=M:=YV (fun m hm=>by rw [(lV hq).1] at hm;cases hm;exact hi) (fun m hm=>by rw [(lV hc).1] at hm;cases hm;exact hp)
 have key:=zX.ok (D:=D') (mp:={ mq with kids:=if q=q then mq.kids.eraseIdx i else mq.kids,par:=if q=c then none else mq.par }) (p:=q) (c:=c) (o:=mq.kids[i+1]?) _ _ ?_ (fun b hb=>(hbs b hb).2) ?_ (JX.det (M:=uH M q i c) (p:=q) (c:=c) (o:=mq.kids[i+1]?) (mc:={ mc with kids:=if c=q then mc.kids.eraseIdx i else mc.kids,par:=if c=c then none else mc.par }) _ i (by show(if c=c then none else mc.par)=none;rw [aC rfl]) hq' ?_)
 ·rw [hM] at key
  exact key
 ·unfold zt at hmay ⊢
  split at hmay
  ·cases hmay
  ·rename_i h1
   have h2:¬(c=0∨oQ (uH M q i c) c (D' q) (some q)=true):=by
    rintro(h | h)
    ·exact h0 h
    ·have:=YF (N:=uH M q i c) hW (fun x mx hx=>YP hx) (fun x m hx=>⟨_,uq hx⟩) c (D' q) q _ hq' h
     omega
   rw [ax h2]
   split at hmay
   ·rename_i h3;rw [aC (show _=(2:Int) from h3)]
   ·rename_i h3
    rw [ax (show ¬_=(2:Int) from h3)]
    split at hmay
    ·cases hmay
    ·rename_i h4
     rw [ax h4]
     rw [Bool.not_eq_true',XG] at hmay ⊢
     intro k hk
     have hk':k∈mq.kids:=by
      have hk2:k∈(if q=q then mq.kids.eraseIdx i else mq.kids):=hk
      rw [aC rfl] at hk2
      exact Ya hk2
     have h5:=hmay k hk'
     obtain⟨mk,hmk,_⟩:=hW.kid q mq k hq hk'
     have e:vW (uH M q i c) c k=vW M c k:=by
      unfold vW
      rw [uq hmk,hmk]
     rw [e]
     exact h5
 ·have h1:=YQ hW hW' (D' q) q _ rfl hq'
  have h2:=YO (q:=q) (i:=i) (c:=c) hW (128 - D' c) c mc hc
  have h3:=hW.low q mq hq
  omega
 ·show(_∧i=(if q=q then mq.kids.eraseIdx i else mq.kids).length)∨_
  cases e:mq.kids[i+1]? with
  | none =>
   refine .inl ⟨rfl,?_⟩
   rw [qy] at e
   rw [aC rfl,Xk,aC hil];omega
  | some b =>
   refine .inr ⟨b,rfl,(hbs b e).1,?_⟩
   show(if q=q then mq.kids.eraseIdx i else mq.kids)[i]? = _
   rw [aC rfl,List.getElem?_eraseIdx,ax (by omega)];exact e
end
/-! ### attributes put back -/
theorem Yz {l:List jR}{k:Nat}{y:jR}(h:l[k]? = some y):(l.eraseIdx k ++ [y]).Perm l:=by
 have hl:=(ai.1 h).1
 have h2:l.drop k=y :: l.drop (k+1):=by
  rw [qA hl]
  rw [ay hl] at h
  cases h;rfl
 have h3:l=l.take k ++ (y :: l.drop (k+1)):=by rw [← h2,bG]
 rw [jU,bu]
 conv=>rhs;rw [h3]
 exact Xg _ (lQ (l₁:=l.drop (k+1)) (l₂:=[y]))
theorem Zf {l:List jR}{x:List UInt8}(h:x∉l.map (·.1)):mJ l x=-1:=FP (fun j z hz e=>h (bC.2 ⟨z,ah hz,e⟩))
theorem YI {l:List jR}{k:Nat}{y:jR}(hn:(l.map (·.1)).Nodup)(h:l[k]? = some y):mJ (l.eraseIdx k) y.1=-1:=by
 refine Zf (fun hm=>?_)
 obtain⟨z,hz,e⟩:=bC.1 hm
 obtain⟨j,hj⟩:=aI.1 hz
 rw [List.getElem?_eraseIdx] at hj
 have key:∀t,l[t]? = some z→t=k:=fun t ht=>by
  have h1:(l.map (·.1))[t]? = some y.1:=by rw [bI,ht];exact bW some e
  have h2:(l.map (·.1))[k]? = some y.1:=by rw [bI,h];rfl
  exact(iK (ai.1 h1).1 hn).1 (h1.trans h2.symm)
 split at hj
 ·have:=key j hj;omega
 ·have:=key (j+1) hj;omega
theorem Zk {l:List jR}{k:Nat}{y:jR}(hn:(l.map (·.1)).Nodup)(h:l[k]? = some y):mJ l y.1=(k:Int):=by
 rcases ug l y.1 with e | ⟨j,z,e,hz⟩
 ·exact absurd (bC.2 ⟨y,ah h,rfl⟩) (Jg e)
 ·have h1:(l.map (·.1))[j]? = some y.1:=by rw [bI,hz];exact bW some (MQ e hz)
  have h2:(l.map (·.1))[k]? = some y.1:=by rw [bI,h];rfl
  have:=(iK (ai.1 h1).1 hn).1 (h1.trans h2.symm)
  rw [e,this]
theorem Zp {l:List jR}{x v:List UInt8}(h:mJ l x=-1):mJ (l ++ [(x,v)]) x=(l.length:Int) :=
 FO (y:=(x,v)) (by simp) rfl (fun j z hj hz e=>Jg h (bC.2 ⟨z,by
  rw [di hj] at hz;exact ah hz,e⟩))
theorem YR {α : Type}{l:List α}{k:Nat}(x:α):(l.set k x).eraseIdx k=l.eraseIdx k:=by
 apply gu
 intro j
 rw [List.getElem?_eraseIdx,List.getElem?_eraseIdx]
 split
 ·rw [jM (by omega)]
 ·rw [jM (by omega)]
/-! ### nodes alike -/
theorem YL {S S2:Tr}{K K2:Nat→List Nat}{d d2:Nat→Nat}(L:Lk S K d)(L2:Lk S2 K2 d2)(hb:S2.b=S.b)(hs:S2.s=S.s){x:Nat}{n n2:Nd}(hn:S.at x=some n)(hn2:S2.at x=some n2)(hk:K2 x=K x)(hp:∀p,x∈K p→K2 p=K p)(hp2:∀p,x∈K2 p→x∈K p) :
  n2.parent=n.parent∧n2.first=n.first∧n2.last=n.last∧n2.prev=n.prev∧n2.next=n.next:=by
 have hd:∀o,hO S2 o=hO S o:=fun o=>by
  cases o with
  | none=>rfl
  | some i=>show S2.hd i=S.hd i;unfold Tr.hd;rw [hb,hs]
 obtain⟨a1,a2⟩:=L.node x n hn
 obtain⟨b1,b2⟩:=L2.node x n2 hn2
 rw [hk,hd] at b1 b2
 by_cases e:∃p,x∈K p
 ·obtain⟨p,hx⟩:=e
  obtain⟨j,hj⟩:=aI.1 hx
  obtain⟨c1,c2,c3⟩:=L.kid p j x n hj hn
  obtain⟨e1,e2,e3⟩:=L2.kid p j x n2 (by rw [hp p hx];exact hj) hn2
  rw [hp p hx,hd] at e2 e3
  refine⟨e1.trans (Eq.trans ?_ c1.symm),b1.trans a1.symm,b2.trans a2.symm,e2.trans c2.symm,e3.trans c3.symm⟩
  unfold Tr.hd;rw [hb,hs]
 ·obtain⟨c1,c2,c3⟩:=L.top x n hn (fun p hx=>e ⟨p,hx⟩)
  obtain⟨e1,e2,e3⟩:=L2.top x n2 hn2 (fun p hx=>e ⟨p,hp2 p hx⟩)
  exact⟨e1.trans c1.symm,b1.trans a1.symm,b2.trans a2.symm,e2.trans c2.symm,e3.trans c3.symm⟩
theorem Zd {c c2 x x2:Nat}{S S2:Tr}{K K2:Nat→List Nat}{d d2:Nat→Nat}{M N:List MN}{σ σ2:Nat→Nat}(T:CX True (fun _=>False) c x S K d M σ)(T2:CX True (fun _=>False) c2 x2 S2 K2 d2 N σ2)(hL:Yp M N)(hσ : ∀i m,lv M i=some m→σ2 i=σ i)(hb:S2.b=S.b)(hs:S2.s=S.s){i:Nat}{m:MN}(hi:lv M i=some m) :
  ∃n n2,S.at (σ i)=some n∧S2.at (σ i)=some n2∧n2.kind=n.kind∧n2.data=n.data∧(n2.parent=n.parent∧n2.first=n.first∧n2.last=n.last∧n2.prev=n.prev∧n2.next=n.next)∧n2.attrs.Perm n.attrs:=by
 have hK:∀p,¬(∃i m,lv M i=some m∧σ i=p)→K p=[]∧K2 p=[]:=fun p hp=>by
  refine⟨XN.2 fun k hk=>?_,XN.2 fun k hk=>?_⟩
  ·rcases T.tw.cover p (T.ok.lk.kin p k hk).1 with h | h
   ·exact h
   ·exact hp h
  ·rcases T2.tw.cover p (T2.ok.lk.kin p k hk).1 with h | ⟨j,mj,hj,e⟩
   ·exact h
   ·obtain⟨m0,h0⟩:=hL.live j mj hj
    exact hp ⟨j,m0,h0,by rw [← e,hσ j m0 h0]⟩
 obtain⟨n,hn,q1,q2,q3,q4⟩:=T.tw.node i m hi
 obtain⟨m2,hi2,p1,p2,p3,p4,p5⟩:=hL.node i m hi
 obtain⟨n2,hn2,r1,r2,r3,r4⟩:=T2.tw.node i m2 hi2
 rw [hσ i m hi] at hn2
 have hKe:∀j mj,lv M j=some mj→K2 (σ j)=K (σ j):=fun j mj hj=>by
  obtain⟨mj2,hj2,_,_,_,s4,_⟩:=hL.node j mj hj
  have h1:=T2.tw.kids j mj2 hj2
  rw [hσ j mj hj] at h1
  rw [h1,T.tw.kids j mj hj,s4]
  refine fM fun k hk=>?_
  obtain⟨mk,hk1,_⟩:=T.tw.kid j mj k hj hk
  exact hσ k mk hk1
 refine⟨n,n2,hn,hn2,r1.trans (p1.trans q1.symm),r3.trans (p2.trans q3.symm),?_,?_⟩
 ·refine YL T.ok.lk T2.ok.lk hb hs hn hn2 (hKe i m hi) (fun p hp=>?_) (fun p hp=>?_)
  ·by_cases e:∃j mj,lv M j=some mj∧σ j=p
   ·obtain⟨j,mj,hj,rfl⟩:=e;exact hKe j mj hj
   ·rw [(hK p e).1] at hp;cases hp
  ·by_cases e:∃j mj,lv M j=some mj∧σ j=p
   ·obtain⟨j,mj,hj,rfl⟩:=e;rw [hKe j mj hj] at hp;exact hp
   ·rw [(hK p e).2] at hp;cases hp
 ·rw [q4 trivial,r4 trivial];exact p5
end Go.Proofs.YtfelmdkeaacfeaaGreatDoor.W
end
