/- Texts joined: LwV. -/
import Derived.Test.YtfelmdkeaacfeaaGreatDoorTV2
set_option maxRecDepth 100000
set_option maxHeartbeats 40000000
set_option linter.unusedVariables false
set_option linter.unusedSimpArgs false
section
namespace Go.Proofs.YtfelmdkeaacfeaaGreatDoor.W
open Go.RowKit
def zh (S:Tr)(l:List Nat)(j:Nat):Int:=hO S (if j=0 then none else l[j - 1]?)
theorem KO {S:Tr}{l:List Nat}{j k:Nat}(h:l[j]? = some k):zh S l (j+1)=S.hd k:=by
 unfold zh
 rw [ax (by omega),Nat.add_sub_cancel,h];rfl
theorem KP (S:Tr)(l:List Nat):zh S l l.length=hO S l.getLast?:=by
 unfold zh
 cases l with
 | nil=>rfl
 | cons a t=>rw [ax (by simp),qw]
def Wi (S:Tr)(l:List Nat)(w:World)(lv kv:Value)(wr:World):Prop:=∃j:Nat,j≤l.length∧kv=.int .i64 (j:Int)∧lv=.int .i64 (zh S l j)∧Below w.heap.size w wr
theorem Dv {w:World}(hL:Laid w)(A:Option Addr)(n c:Nat)(f:Nat→ou)(hP:UW w A n f)(hn:n≤9223372036854775807)(hf:∀j,(f j).In) :
  Calls Tryz.prog 8 #[.slice A n c] w fun e w'=>e=.returned (.bool true)∧Below w.heap.size w w':=by
 have HL:=ae hL
 have HP:=ae hP
 have HF:=ae hf
 clear hL hP hf
 go_enter Tryz.func8,Tryz.ntmps8
 go_wp2_with fail
 refine(Gn w).mono ?_
 rintro e w1 ⟨rfl,hb1⟩
 have HB1:=ae hb1
 clear hb1
 go_wp2_with fail
 refine(Ph A n c f (HP.out.below HB1.out) hn).mono ?_
 rintro e w2 ⟨b,rfl,hfew,hw⟩
 rw [hw]
 clear hw
 cases b with
 | false =>
  go_wp2_with fail
  refine(Gn w1).mono ?_
  rintro e w3 ⟨rfl,hb3⟩
  have HB3:=ae (aV HB1.out hb3)
  clear hb3
  go_wp2_with fail
  go_ret
  exact⟨rfl,HB3.out⟩
 | true =>
  obtain⟨hn60,hstr⟩:=hfew rfl
  have HS:=ae hstr
  clear hfew hstr
  go_wp2_with fail
  refine(NL ((All.start w).still HB1.out) 0 0).mono ?_
  rintro e w3 ⟨g,R,Q,hv,sv,nv,X,rfl,hms,hA⟩
  have HR:=ae (show VZ w g n (.int .i64 0) w3 from⟨0,aZ _,rfl,R,Q,hv,sv,_,nv,_,_,_,X,_,hA,hms ▸ NI 0 0⟩)
  clear hA hms
  go_wp2_with fail
  go_loopw [4] (fun iv wr=>VZ w g n iv wr) (fun iv _=>n - iW iv)
  case atStart=>exact HR.out
  case round =>
   obtain⟨i,hi,rfl,R,Q,hv,sv,fv,nv,S,K,d,X,σ,hA,hT⟩:=hrel
   have HA:=ae hA
   have HT:=ae hT
   have hHl:(iZ S σ (ms X)).length=X.length:=by rw [jJ,aY]
   obtain⟨hva,hvc,hvv⟩:=aW (lL hA)
   rw [hHl] at hvv
   subst hvv
   have g2:=(bF hA).cell 2
   simp only [fQ,fP] at g2
   have hgl:=(bF hA).lt
   have hSp:0 < S.slots.length:=by
    obtain⟨n,hn,_⟩:=hT.ok.doc
    exact iy hn
   have hXs:=hT.tw.few
   rw [aY] at hXs
   have hSs:=hT.lim
   rw [aY] at hSs
   clear hA hT hHl
   by_cases hgo:i < n∧X.length < 300
   ·obtain⟨hin,hx3⟩:=hgo
    have hii:(i:Int) < (n:Int):=by omega
    have hxx:decide ((X.length:Int) < 300)=true:=by simp;omega
    obtain⟨b,off,rfl,hbl,hc⟩:=(HP.out.below HA.out.below) (by omega)
    obtain⟨p0,p1,p2,p3,p4,p5,p6,p7⟩:=hc i hin
    clear hc
    go_wp2_with fail
    refine(UG (HL.out.below HA.out.below) HA.out HT.out (by omega) (by omega) (fun _=>by omega) (by omega) (f i) ((HF.out i).ok (HS.out i hin)) (fun y h=>h.elim)).mono ?_
    rintro e w5 ⟨v,ok,S',K',d',X',σ',hv',sv',fv',nv',ts,rs,dl,rfl,hA5,hT5,hex,_⟩
    have hS5:0 < S'.slots.length:=by
     obtain⟨n,hn,_⟩:=hT5.ok.doc
     exact iy hn
    obtain⟨gs,caps,rfl⟩:=fO (jF hA5.tail) (by omega)
    have hX5:=hT5.tw.few
    have hS6:=hT5.lim
    have hlv:S'.live≤S'.slots.length:=gU _ _
    have HA5:=ae hA5.tail
    have HT5:=ae hT5
    have g0:=(bF HA5.out).cell 0
    simp only [fQ,fP] at g0
    have hgl5:=(bF HA5.out).lt
    clear hA5 hT5 hex p0 p1 p2 p3 p4 p5 p6 p7 g2 hgl
    go_wp2_with fail
    refine(J6 HT5.out.ok (jF HA5.out) (HL.out.below HA5.out.below) (by omega) (by omega)).mono ?_
    rintro e w6 ⟨rfl,hb6⟩
    have HA6:=ae (HA5.out.still hb6)
    clear hb6 g0 hgl5
    go_wp2_with fail
    go_roundw
    case rel=>exact⟨i+1,by omega,by go_num,_,_,_,_,_,_,_,_,_,_,_,HA6.out,HT5.out⟩
    case measure=>simp [iW];omega
   ·obtain⟨ws,rfl⟩:∃q,q=wr:=⟨wr,rfl⟩
    obtain⟨gs,caps,rfl⟩:=fO (jF HA.out) (by omega)
    have hHl:(iZ S σ (ms X)).length=X.length:=by rw [jJ,aY]
    generalize hHs:iZ S σ (ms X)=Hs at *
    have HHs:=ae hHs
    have HHl:=ae hHl
    clear hHs hHl
    rcases(show n≤i∨(i < n∧300≤X.length) by omega) with h1 | ⟨h1,h2⟩
    all_goals
     first
      | (have h3:=h2;have hii:(i:Int) < (n:Int):=(by omega);have hxx:decide ((X.length:Int) < 300)=false:=(by simp;omega))
      | (obtain rfl:i=n:=by omega)
     clear hgo
     have HAs:=HA
     go_wp2_with fail
     clear g2 hgl
     go_loopw [5] (fun iv wr=>WH ws X.length iv wr) (fun iv _=>X.length - iW iv)
     case atStart=>exact⟨0,aZ _,rfl,ak _ _⟩
     case round =>
      obtain⟨i,hi,rfl,hB⟩:=hrel
      obtain⟨wq,rfl⟩:∃q,q=wr:=⟨wr,rfl⟩
      have HB:=ae hB
      have HA:=ae (HAs.out.still hB)
      have g2:=(bF HA.out).cell 2
      simp only [fQ,fP] at g2
      have hgl:=(bF HA.out).lt
      clear hB
      by_cases hlt:i < X.length
      ·obtain⟨hd,hhd,hho,hcase⟩:=zI HT.out (i:=i) (by rw [aY];exact hlt)
       rw [HHs.out] at hhd
       obtain⟨gh,rfl,hghl,hgh⟩:=jk HA.out HHl.out _ _ hhd
       have hai:(i:Int) < (X.length:Int):=by omega
       go_upto_region 13 with fail
       clear g2 hgl
       rcases hcase with ⟨m,n,hm,hn,rfl⟩ | ⟨hm,rfl,hix⟩
       case inr =>
        have hne:Nonempty (dS (L9 g R Q gh i (.slice (some ⟨gh,0,none⟩) X.length hvc) (-1))):=⟨⟨wq,bF HA.out,hgh⟩⟩
        have y0:=fun(x:dS (L9 g R Q gh i (.slice (some ⟨gh,0,none⟩) X.length hvc) (-1)))=>x.h.bk.cell 0
        have y2:=fun(x:dS (L9 g R Q gh i (.slice (some ⟨gh,0,none⟩) X.length hvc) (-1)))=>x.h.bk.cell 2
        have y3:=fun(x:dS (L9 g R Q gh i (.slice (some ⟨gh,0,none⟩) X.length hvc) (-1)))=>x.h.hc
        simp only [fQ,fP] at y0 y2
        refine RZ.sH ⟨L9 g R Q gh i (.slice (some ⟨gh,0,none⟩) X.length hvc) (-1),Ez wq jV false,VR jV false,fun _ r=>.pointer (some ⟨r,0,none⟩),fun _=>jd jV,fun _=>62⟩ 18 (by kernel_rfl) (by kernel_rfl) (fun k Y w' h=>⟨(bF HA.out).below h.low,aU h.low hgh⟩) Ez.alloc Ez.perm ⟨(ak _ _).drew,fun o ho=>(by cases ho)⟩ ?_
        simp only [mD,mr,l9,lZ]
        repeat (first
         | (refine RZ.aN (by rfl) (by rfl) (fun K hK=>?_);go_big_quiet_step (fail);refine az ?_;refine hK.out _ ?_;clear hK K)
         | (refine RZ.aK (by rfl) ?_;simp only [Act.put,dL,dK,dJ]))
        refine RZ.dM (by rfl) (by rfl) (fun w=>by go_simp;exact⟨rfl,rfl⟩) ⟨_,none,0,rfl⟩ (fun Y wx hx=>?_) (fun v hv=>?_)
        ·have hx1:Below wq.heap.size wq wx:=hx.1
         refine(N8 (jF (HA.out.still hx1)) (-1) hho hix).mono ?_
         rintro e wy ⟨v',rfl,ho,hb⟩
         obtain⟨va,vc,rfl⟩:=bP ho
         exact⟨_,rfl,⟨va,vc,rfl⟩,aV hx1 hb,hx.2.below hb,fun v' e=>by rw [← AB e];exact iD ho (aZ _)⟩
        obtain⟨va,vc,rfl⟩:=hv
        simp only [Act.put,dL,dK,dJ]
        repeat (first
         | (refine RZ.aN (by rfl) (by rfl) (fun K hK=>?_);go_big_quiet_step (fail);refine az ?_;refine hK.out _ ?_;clear hK K)
         | (refine RZ.aK (by rfl) ?_;simp only [Act.put,dL,dK,dJ]))
        refine RZ.rY (fun r=>.pointer (some ⟨r,0,none⟩)) (jd jV) 62 rfl rfl rfl (by rfl) (by rfl) (fun w=>by go_simp;rfl) ?_
        intro r
        simp only [Act.put,dL,dK,dJ]
        repeat (first
         | (refine RZ.aN (by rfl) (by rfl) (fun K hK=>?_);go_big_quiet_step (fail);refine az ?_;refine hK.out _ ?_;clear hK K)
         | (refine RZ.aK (by rfl) ?_;simp only [Act.put,dL,dK,dJ]))
        refine RZ.Hf (by rfl) (by rfl) rfl (fun Y wx hY hx=>?_) (fun v hv=>?_)
        ·obtain⟨k5,h5⟩:=Ez.store hx (hY _ (List.Mem.head _))
         refine⟨_,?_,h5⟩
         have hrz:=k5.free
         have hrl:=k5.lt
         have c0:=k5.cell 0
         have c1:=k5.cell 1
         have c2:=k5.cell 2
         have c3:=k5.cell 3
         have c4:=k5.cell 4
         have c5:=k5.cell 5
         have c6:=k5.cell 6
         have c7:=k5.cell 7
         have c8:=k5.cell 8
         simp only [jd,jV,dA,fQ,fP] at c0 c1 c2 c3 c4 c5 c6 c7 c8
         clear h5 k5 hx hY
         simp only [UT,jd,dA]
         go_simp
        obtain rfl:v=undef:=hv
        simp only [Act.put,dL,dK,dJ]
        repeat (first
         | (refine RZ.aN (by rfl) (by rfl) (fun K hK=>?_);go_big_quiet_step (fail);refine az ?_;refine hK.out _ ?_;clear hK K)
         | (refine RZ.aK (by rfl) ?_;simp only [Act.put,dL,dK,dJ]))
        refine RZ.eH ?_
        rintro w6 ⟨hB6,r',va',ez1,hrW,hmem,k6,hO6⟩
        obtain rfl:=LW (eF.1 hmem)
        have ez2:=AB ez1
        subst ez2
        clear ez1 hmem hrW y0 y2 y3 hne hO6
        have hB6:Below wq.heap.size wq w6:=hB6
        have HB6:=ae (aV HB.out hB6)
        clear k6 hB6 hgh hghl
        go_wp2_with fail
        go_roundw
        case rel=>exact⟨i+1,by omega,by go_num,HB6.out⟩
        case measure=>simp [iW];omega
       case inl =>
        have HHd:=ae hhd
        have HN:=ae hn
        have hkl:=lX HT.out.ok.lk (σ i)
        clear hn hm
        have hne:Nonempty (dS (L9 g R Q gh i (.slice (some ⟨gh,0,none⟩) X.length hvc) (S.hd (σ i)))):=⟨⟨wq,bF HA.out,hgh⟩⟩
        have y0:=fun(x:dS (L9 g R Q gh i (.slice (some ⟨gh,0,none⟩) X.length hvc) (S.hd (σ i))))=>x.h.bk.cell 0
        have y2:=fun(x:dS (L9 g R Q gh i (.slice (some ⟨gh,0,none⟩) X.length hvc) (S.hd (σ i))))=>x.h.bk.cell 2
        have y3:=fun(x:dS (L9 g R Q gh i (.slice (some ⟨gh,0,none⟩) X.length hvc) (S.hd (σ i))))=>x.h.hc
        simp only [fQ,fP] at y0 y2
        refine RZ.sH ⟨L9 g R Q gh i (.slice (some ⟨gh,0,none⟩) X.length hvc) (S.hd (σ i)),Ez wq n true,VR n true,fun _ r=>.pointer (some ⟨r,0,none⟩),fun _=>jd jV,fun _=>62⟩ 18 (by kernel_rfl) (by kernel_rfl) (fun k Y w' h=>⟨(bF HA.out).below h.low,aU h.low hgh⟩) Ez.alloc Ez.perm ⟨(ak _ _).drew,fun o ho=>(by cases ho)⟩ ?_
        simp only [mD,mr,l9,lZ]
        repeat (first
         | (refine RZ.aN (by rfl) (by rfl) (fun K hK=>?_);go_big_quiet_step (fail);refine az ?_;refine hK.out _ ?_;clear hK K)
         | (refine RZ.aK (by rfl) ?_;simp only [Act.put,dL,dK,dJ]))
        refine RZ.dM (by rfl) (by rfl) (fun w=>by go_simp;exact⟨rfl,rfl⟩) ⟨_,none,0,rfl⟩ (fun Y wx hx=>?_) (fun v hv=>?_)
        ·have hx1:Below wq.heap.size wq wx:=hx.1
         refine(wM (jF (HA.out.still hx1)) (S.hd (σ i)) hho (fV HT.out.ok.lk HN.out) (dN HN.out) (by have:=(HT.out.ok.nd _ n HN.out).al;omega)).mono ?_
         rintro e wy ⟨v',rfl,ho,hb⟩
         obtain⟨va,vc,rfl⟩:=bP ho
         exact⟨_,rfl,⟨va,vc,rfl⟩,aV hx1 hb,hx.2.below hb,fun v' e=>by rw [← AB e];exact iD ho (aZ _)⟩
        obtain⟨va,vc,rfl⟩:=hv
        simp only [Act.put,dL,dK,dJ]
        repeat (first
         | (refine RZ.aN (by rfl) (by rfl) (fun K hK=>?_);go_big_quiet_step (fail);refine az ?_;refine hK.out _ ?_;clear hK K)
         | (refine RZ.aK (by rfl) ?_;simp only [Act.put,dL,dK,dJ]))
        refine RZ.rY (fun r=>.pointer (some ⟨r,0,none⟩)) (jd jV) 62 rfl rfl rfl (by rfl) (by rfl) (fun w=>by go_simp;rfl) ?_
        intro r
        simp only [Act.put,dL,dK,dJ]
        repeat (first
         | (refine RZ.aN (by rfl) (by rfl) (fun K hK=>?_);go_big_quiet_step (fail);refine az ?_;refine hK.out _ ?_;clear hK K)
         | (refine RZ.aK (by rfl) ?_;simp only [Act.put,dL,dK,dJ]))
        refine RZ.Hf (by rfl) (by rfl) rfl (fun Y wx hY hx=>?_) (fun v hv=>?_)
        ·obtain⟨k5,h5⟩:=Ez.store hx (hY _ (List.Mem.head _))
         refine⟨_,?_,h5⟩
         have hrz:=k5.free
         have hrl:=k5.lt
         have c0:=k5.cell 0
         have c1:=k5.cell 1
         have c2:=k5.cell 2
         have c3:=k5.cell 3
         have c4:=k5.cell 4
         have c5:=k5.cell 5
         have c6:=k5.cell 6
         have c7:=k5.cell 7
         have c8:=k5.cell 8
         simp only [jd,jV,dA,fQ,fP] at c0 c1 c2 c3 c4 c5 c6 c7 c8
         clear h5 k5 hx hY
         simp only [UT,jd,dA]
         go_simp
        obtain rfl:v=undef:=hv
        simp only [Act.put,dL,dK,dJ]
        repeat (first
         | (refine RZ.aN (by rfl) (by rfl) (fun K hK=>?_);go_big_quiet_step (fail);refine az ?_;refine hK.out _ ?_;clear hK K)
         | (refine RZ.aK (by rfl) ?_;simp only [Act.put,dL,dK,dJ]))
        refine RZ.eH ?_
        rintro w6 ⟨hB6,r',va',ez1,hrW,hmem,k6,hO6⟩
        obtain rfl:=LW (eF.1 hmem)
        have ez2:=AB ez1
        subst ez2
        clear ez1 hmem hrW y0 y2 y3 hne hO6
        have hB6:Below wq.heap.size wq w6:=hB6
        simp only [jd,dA] at k6
        have HK6:=ae k6
        have HA6:=ae (HA.out.still hB6)
        have HB6:=ae (aV HB.out hB6)
        have hg6:=aU hB6 hgh
        clear k6 hB6 hgh hghl
        go_upto_region 16 with fail
        have hne:=gI w6
        have y0:=fun(x:dS (jc w6))=>(bF (HA6.out.still x.h)).cell 0
        have y2:=fun(x:dS (jc w6))=>(bF (HA6.out.still x.h)).cell 2
        have y3:=fun(x:dS (jc w6))=>aU x.h hg6
        simp only [fQ,fP] at y0 y2
        refine mW (Vt (hC ((K (σ i)).map S.hd)) (K (σ i)).length) (fun _ v=>∃a c,v=.slice a (K (σ i)).length c) 13 (by kernel_rfl) (by kernel_rfl) Vt.below trivial ?_
        simp only [mD,mr,l9,lZ]
        repeat (first
         | (refine RV.aN (by rfl) (by rfl) (fun K hK=>?_);go_big_quiet_step (fail);refine az ?_;refine hK.out _ ?_;clear hK K)
         | (refine RV.aK (by rfl) ?_;simp only [Act.put,dL,dK,dJ]))
        refine RV.dM (by rfl) (by rfl) (fun w=>by go_simp;exact⟨rfl,rfl⟩) (⟨_,none,0,rfl⟩) (fun X wx hx=>?_) (fun v hv=>?_)
        ·have hx1:Below w6.heap.size w6 wx:=hx.1
         refine(pV (jF (HA6.out.still hx1)) HT.out.ok.lk (σ i) n HN.out).mono ?_
         rintro e wy ⟨v,rfl,ho,hb⟩
         obtain⟨ka',kc',rfl⟩:=bP ho
         exact⟨_,rfl,⟨ka',kc',rfl⟩,aV hx1 hb,iD ho (aZ _)⟩
        obtain⟨kva,kvc,rfl⟩:=hv
        simp only [Act.put,dL,dK,dJ]
        repeat (first
         | (refine RV.aN (by rfl) (by rfl) (fun K hK=>?_);go_big_quiet_step (fail);refine az ?_;refine hK.out _ ?_;clear hK K)
         | (refine RV.aK (by rfl) ?_;simp only [Act.put,dL,dK,dJ]))
        refine RV.eH ?_
        intro w8 hb8 hk8
        have HK:=ae (show Own w8 3 1 (.slice kva (K (σ i)).length kvc) (K (σ i)).length (hC ((K (σ i)).map S.hd)) from hk8)
        have hb8:Below w6.heap.size w6 w8:=hb8
        have HK8:=ae (HK6.out.below hb8)
        have HA8:=ae (HA6.out.still hb8)
        have HB8:=ae (aV HB6.out hb8)
        clear y0 y2 y3 hne hb8 hk8 hg6 HA6 HB6 HK6
        go_wp2_with fail
        go_loopw [8,10] (fun lv jv wz=>Wi S (K (σ i)) w8 lv jv wz) (fun _ jv _=>(K (σ i)).length - iW jv)
        case atStart=>exact⟨0,aZ _,rfl,rfl,ak _ _⟩
        case round =>
         obtain⟨j,hj,rfl,rfl,hBz⟩:=hrel
         obtain⟨wz,rfl⟩:∃q,q=wr:=⟨wr,rfl⟩
         have HBz:=ae hBz
         have HAz:=ae (HA8.out.still hBz)
         have HPl:=ae (KP S (K (σ i)))
         by_cases hjl:j < (K (σ i)).length
         ·obtain⟨k,hk⟩:∃k,(K (σ i))[j]? = some k:=⟨_,ay hjl⟩
          have hajl:(j:Int) < ((K (σ i)).length:Int):=by omega
          obtain⟨nk,hnk⟩:=HT.out.ok.lk.some hk
          obtain⟨e1,e2,e3⟩:=HT.out.ok.lk.kid (σ i) j k nk hk hnk
          have e4:nk.prev=zh S (K (σ i)) j:=e2
          have e5:j=0→n.first=S.hd k:=fun e=>by
           have:=(HT.out.ok.lk.node (σ i) n HN.out).1
           rw [this];subst e;rw [hk];rfl
          have HNk:=ae hnk
          have HE1:=ae e1
          have HE4:=ae e4
          have HE5:=ae e5
          have HSu:=ae (KO (S:=S) hk)
          have HKj:=ae hk
          obtain⟨gk,ck,ek,hgk⟩:=pO (bH HK.out hBz) (j:=j) (x:=S.hd k) (by rw [bI,hk];rfl)
          cases ek
          clear hnk e1 e2 e3 e4 e5 hk hBz
          generalize zh S (K (σ i)) j=pv at *
          go_upto_region 20 with fail
          have hne:Nonempty (dS (L9 g R Q gk j (.slice (some ⟨gh,0,none⟩) X.length hvc) (S.hd k))):=⟨⟨wz,bF HAz.out,hgk⟩⟩
          have y0:=fun(x:dS (L9 g R Q gk j (.slice (some ⟨gh,0,none⟩) X.length hvc) (S.hd k)))=>x.h.bk.cell 0
          have y2:=fun(x:dS (L9 g R Q gk j (.slice (some ⟨gh,0,none⟩) X.length hvc) (S.hd k)))=>x.h.bk.cell 2
          have y3:=fun(x:dS (L9 g R Q gk j (.slice (some ⟨gh,0,none⟩) X.length hvc) (S.hd k)))=>x.h.hc
          simp only [fQ,fP] at y0 y2
          refine RZ.sH ⟨L9 g R Q gk j (.slice (some ⟨gh,0,none⟩) X.length hvc) (S.hd k),Ez wz nk true,VR nk true,fun _ r=>.pointer (some ⟨r,0,none⟩),fun _=>jd jV,fun _=>62⟩ 15 (by kernel_rfl) (by kernel_rfl) (fun k Y w' h=>⟨(bF HAz.out).below h.low,aU h.low hgk⟩) Ez.alloc Ez.perm ⟨(ak _ _).drew,fun o ho=>(by cases ho)⟩ ?_
          simp only [mD,mr,l9,lZ]
          repeat (first
           | (refine RZ.aN (by rfl) (by rfl) (fun K hK=>?_);go_big_quiet_step (fail);refine az ?_;refine hK.out _ ?_;clear hK K)
           | (refine RZ.aK (by rfl) ?_;simp only [Act.put,dL,dK,dJ]))
          refine RZ.dM (by rfl) (by rfl) (fun w=>by go_simp;exact⟨rfl,rfl⟩) ⟨_,none,0,rfl⟩ (fun Y wx hx=>?_) (fun v hv=>?_)
          ·have hx1:Below wz.heap.size wz wx:=hx.1
           refine(wM (jF (HAz.out.still hx1)) (S.hd k) (hd_ok HT.out.ok.lk HNk.out).1 (fV HT.out.ok.lk HNk.out) (dN HNk.out) (by have:=(HT.out.ok.nd _ nk HNk.out).al;omega)).mono ?_
           rintro e wy ⟨v',rfl,ho,hb⟩
           obtain⟨va,vc,rfl⟩:=bP ho
           exact⟨_,rfl,⟨va,vc,rfl⟩,aV hx1 hb,hx.2.below hb,fun v' e=>by rw [← AB e];exact iD ho (aZ _)⟩
          obtain⟨va,vc,rfl⟩:=hv
          simp only [Act.put,dL,dK,dJ]
          repeat (first
           | (refine RZ.aN (by rfl) (by rfl) (fun K hK=>?_);go_big_quiet_step (fail);refine az ?_;refine hK.out _ ?_;clear hK K)
           | (refine RZ.aK (by rfl) ?_;simp only [Act.put,dL,dK,dJ]))
          refine RZ.rY (fun r=>.pointer (some ⟨r,0,none⟩)) (jd jV) 62 rfl rfl rfl (by rfl) (by rfl) (fun w=>by go_simp;rfl) ?_
          intro r
          simp only [Act.put,dL,dK,dJ]
          repeat (first
           | (refine RZ.aN (by rfl) (by rfl) (fun K hK=>?_);go_big_quiet_step (fail);refine az ?_;refine hK.out _ ?_;clear hK K)
           | (refine RZ.aK (by rfl) ?_;simp only [Act.put,dL,dK,dJ]))
          refine RZ.Hf (by rfl) (by rfl) rfl (fun Y wx hY hx=>?_) (fun v hv=>?_)
          ·obtain⟨k5,h5⟩:=Ez.store hx (hY _ (List.Mem.head _))
           refine⟨_,?_,h5⟩
           have hrz:=k5.free
           have hrl:=k5.lt
           have c0:=k5.cell 0
           have c1:=k5.cell 1
           have c2:=k5.cell 2
           have c3:=k5.cell 3
           have c4:=k5.cell 4
           have c5:=k5.cell 5
           have c6:=k5.cell 6
           have c7:=k5.cell 7
           have c8:=k5.cell 8
           simp only [jd,jV,dA,fQ,fP] at c0 c1 c2 c3 c4 c5 c6 c7 c8
           clear h5 k5 hx hY
           simp only [UT,jd,dA]
           go_simp
          obtain rfl:v=undef:=hv
          simp only [Act.put,dL,dK,dJ]
          repeat (first
           | (refine RZ.aN (by rfl) (by rfl) (fun K hK=>?_);go_big_quiet_step (fail);refine az ?_;refine hK.out _ ?_;clear hK K)
           | (refine RZ.aK (by rfl) ?_;simp only [Act.put,dL,dK,dJ]))
          refine RZ.eH ?_
          rintro w6 ⟨hB6,r',va',ez1,hrW,hmem,k6,hO6⟩
          obtain rfl:=LW (eF.1 hmem)
          have ez2:=AB ez1
          subst ez2
          clear ez1 hmem hrW y0 y2 y3 hne hO6
          have hB6:Below wz.heap.size wz w6:=hB6
          simp only [jd,dA] at k6
          have HKk:=ae k6
          have HA6:=ae (HAz.out.still hB6)
          have HB6:=ae (aV HBz.out hB6)
          have HKb:=ae ((HK8.out.below HBz.out).below hB6)
          have hgk6:=aU hB6 hgk
          obtain⟨gh',eh,_,hgh⟩:=jk HA6.out HHl.out i _ HHd.out
          cases eh
          clear k6 hB6 hgk
          rw [HE1.out,HE4.out] at HKk
          have hne:=gI w6
          have y0:=fun(x:dS (jc w6))=>(bF (HA6.out.still x.h)).cell 0
          have y2:=fun(x:dS (jc w6))=>(bF (HA6.out.still x.h)).cell 2
          have y3:=fun(x:dS (jc w6))=>aU x.h hgh
          have y4:=fun(x:dS (jc w6))=>aU x.h hgk6
          have z4:=fun(x:dS (jc w6))=>(HKk.out.below x.h).cell 4
          have z7:=fun(x:dS (jc w6))=>(HKk.out.below x.h).cell 7
          have z5:=fun(x:dS (jc w6))=>(HKb.out.below x.h).cell 5
          simp only [fQ,fP] at y0 y2 z4 z7 z5
          clear hgh
          go_upto_region 21 with fail
          by_cases hj0:j=0
          ·rw [HE5.out hj0] at z5
           subst hj0
           refine mW (fun _ _=>True) (fun _ v=>v=.int .i64 0) 42 (by kernel_rfl) (by kernel_rfl) (fun _ _ _ _ _=>trivial) trivial ?_
           simp only [mD,mr,l9,lZ]
           repeat (first
            | (refine RV.aN (by rfl) (by rfl) (fun K hK=>?_);go_big_quiet_step (fail);refine az ?_;refine hK.out _ ?_;clear hK K)
            | (refine RV.aK (by rfl) ?_;simp only [Act.put,dL,dK,dJ]))
           refine RV.dM (by rfl) (by rfl) (fun w=>by go_simp;exact⟨rfl,rfl⟩) (⟨_,rfl⟩) (fun X wx hx=>?_) (fun v hv=>?_)
           ·refine(sQ (jF (HA6.out.still hx.1)) HT.out.ok.lk (σ i) 0 k HKj.out).mono ?_
            rintro e wy ⟨rfl,hb⟩
            exact⟨_,rfl,rfl,aV hx.1 hb,trivial⟩
           obtain rfl:v=.int .i64 0:=hv
           simp only [Act.put,dL,dK,dJ]
           repeat (first
            | (refine RV.aN (by rfl) (by rfl) (fun K hK=>?_);go_big_quiet_step (fail);refine az ?_;refine hK.out _ ?_;clear hK K)
            | (refine RV.aK (by rfl) ?_;simp only [Act.put,dL,dK,dJ]))
           refine RV.eH ?_
           intro w9 hb9 _
           have hb9:Below w6.heap.size w6 w9:=hb9
           have HB9:=ae (aV HB6.out hb9)
           have hgk9:=aU hb9 hgk6
           clear y0 y2 y3 y4 z4 z7 z5 hne hb9 hgk6
           go_wp2_with fail
           go_roundw
           case rel=>exact⟨0+1,by omega,by go_num,by rw [HSu.out],HB9.out⟩
           case measure=>simp [iW];omega
          ·have hj1:((j:Int) == 0)=false:=by simp;omega
           have hj2:decide ((j:Int)=0)=false:=by simp;omega
           refine mW (fun _ _=>True) (fun _ v=>v=.int .i64 (j:Int)) 42 (by kernel_rfl) (by kernel_rfl) (fun _ _ _ _ _=>trivial) trivial ?_
           simp only [mD,mr,l9,lZ]
           repeat (first
            | (refine RV.aN (by rfl) (by rfl) (fun K hK=>?_);go_big_quiet_step (fail);refine az ?_;refine hK.out _ ?_;clear hK K)
            | (refine RV.aK (by rfl) ?_;simp only [Act.put,dL,dK,dJ]))
           refine RV.dM (by rfl) (by rfl) (fun w=>by go_simp;exact⟨rfl,rfl⟩) (⟨_,rfl⟩) (fun X wx hx=>?_) (fun v hv=>?_)
           ·refine(sQ (jF (HA6.out.still hx.1)) HT.out.ok.lk (σ i) j k HKj.out).mono ?_
            rintro e wy ⟨rfl,hb⟩
            exact⟨_,rfl,rfl,aV hx.1 hb,trivial⟩
           obtain rfl:v=.int .i64 (j:Int):=hv
           simp only [Act.put,dL,dK,dJ]
           repeat (first
            | (refine RV.aN (by rfl) (by rfl) (fun K hK=>?_);go_big_quiet_step (fail);refine az ?_;refine hK.out _ ?_;clear hK K)
            | (refine RV.aK (by rfl) ?_;simp only [Act.put,dL,dK,dJ]))
           refine RV.eH ?_
           intro w9 hb9 _
           have hb9:Below w6.heap.size w6 w9:=hb9
           have HB9:=ae (aV HB6.out hb9)
           have hgk9:=aU hb9 hgk6
           clear y0 y2 y3 y4 z4 z7 z5 hne hb9 hgk6
           go_wp2_with fail
           go_roundw
           case rel=>exact⟨j+1,by omega,by go_num,by rw [HSu.out],HB9.out⟩
           case measure=>simp [iW];omega
         ·obtain rfl:j=(K (σ i)).length:=by omega
          have el:n.last=zh S (K (σ i)) (K (σ i)).length:=by rw [HPl.out];exact(HT.out.ok.lk.node (σ i) n HN.out).2
          have z6:=(HK8.out.below hBz).cell 6
          simp only [fQ,fP] at z6
          rw [el] at z6
          clear hBz el
          generalize zh S (K (σ i)) (K (σ i)).length=pv at *
          go_wp2_with fail
          go_roundw
          case rel=>exact⟨i+1,by omega,by go_num,aV HB8.out HBz.out⟩
          case measure=>simp [iW];omega
      ·obtain rfl:i=X.length:=by omega
       go_wp2_with fail
       go_ret
       exact⟨rfl,HAs.out.below.trans (HB.out.mono HAs.out.below.size)⟩
end Go.Proofs.YtfelmdkeaacfeaaGreatDoor.W
end
