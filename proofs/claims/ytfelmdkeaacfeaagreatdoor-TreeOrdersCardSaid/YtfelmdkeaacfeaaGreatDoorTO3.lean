/- Texts joined: LwO. -/
import Derived.Test.YtfelmdkeaacfeaaGreatDoorTO2
set_option maxRecDepth 100000
set_option maxHeartbeats 40000000
set_option linter.unusedVariables false
set_option linter.unusedSimpArgs false
section
namespace Go.Proofs.YtfelmdkeaacfeaaGreatDoor.W
open Go.RowKit
attribute [local go_sem] Oper.semAt_some
theorem YF {w:World}(hL:Laid w)(A:Option Addr)(n c:Nat)(f:Nat→ou)(hP:UW w A n f)(hn:n≤9223372036854775807)(hf:∀j,(f j).In)(a b:Int)(ha0:0≤a)(ha1:a≤255)(hb0:0≤b)(hb1:b≤255) :
  Calls Tryz.prog 9 #[.slice A n c,.int .u8 a,.int .u8 b] w fun e w'=>e=.returned (.bool true)∧Below w.heap.size w w':=by
 obtain⟨a,rfl⟩:∃k:Nat,a=k:=⟨a.toNat,by omega⟩
 obtain⟨b,rfl⟩:∃k:Nat,b=k:=⟨b.toNat,by omega⟩
 have HL:=ae hL
 have HP:=ae hP
 have HF:=ae hf
 clear hL hP hf
 refine(jP (n:=8)).1 ?_
 refine zZ Tryz.func9 rfl trivial ?_ rfl
 simp only [Tryz.ntmps9,gZ,List.length_cons,List.length_nil,Nat.reduceAdd,Nat.reduceSub,ji,Array.replicate_zero,jS,jE,List.nil_append,List.cons_append]
 refine wpIn_wide.2 ?_
 have hA0:=(All.start w).sO [.bool false] 4
 have HA0:=ae hA0
 clear hA0
 go_wp2_with fail
 refine(Gn _).mono ?_
 rintro e w1 ⟨rfl,hb1⟩
 have HA1:=ae (HA0.out.still hb1)
 clear hb1 HA0
 go_wp2_with fail
 refine(Ph A n c f (HP.out.below HA1.out.below) hn).mono ?_
 rintro e w2 ⟨bb,rfl,hfew,hw⟩
 rw [hw]
 clear hw
 cases bb with
 | false =>
  go_wp2_with fail
  refine(Gn w1).mono ?_
  rintro e w3 ⟨rfl,hb3⟩
  have HA3:=ae (HA1.out.still hb3)
  have k6:=HA3.out.head
  have c6:=k6.cell 0
  simp only [List.getElem?_cons_zero] at c6
  have f6:=k6.free
  have l6:=k6.lt
  clear hb3
  go_wp2_with fail
  obtain⟨r1,r2⟩:=YG k6 HA3.out.below (au _) true
  refine⟨.bool true,?_,rfl,r2⟩
  simp [results,Tryz.f9,go_sem,r1]
 | true =>
  obtain⟨hn60,hstr⟩:=hfew rfl
  have HS:=ae hstr
  clear hfew hstr
  go_wp2_with fail
  refine(NL HA1.out 2 5).mono ?_
  rintro e w3 ⟨g,R,Q,hv,sv,nv,X,rfl,hms,hA⟩
  have hX1:X.length=1:=by have:=bW List.length hms;rw [aY] at this;exact this
  go_upto_region 4 with fail
  have hA4:=(hA.sO [.pointer (some ⟨g,0,none⟩)] 25).perm List.perm_middle.symm
  generalize w3.alloc (.cells #[.pointer (some ⟨g,0,none⟩)] 25)=w4 at *
  generalize hb7:w3.heap.size=b7 at *
  have HR:=ae (show LoR w w.heap.size b7 g n (.int .i64 0) w4 from⟨0,aZ _,rfl,R,Q,hv,sv,_,nv,_,_,_,X,_,hA4,hms ▸ NI 2 5,by omega⟩)
  clear hA hA4 hms hX1 hb7
  go_wp2_with fail
  go_loopw [8] (fun iv wr=>LoR w w.heap.size b7 g n iv wr) (fun iv _=>n - iW iv)
  case atStart=>exact HR.out
  case round =>
   obtain⟨i,hi,rfl,R,Q,hv,sv,fv,nv,S,K,d,X,σ,hA,hT,hX6⟩:=hrel
   obtain⟨ws,rfl⟩:∃q,q=wr:=⟨wr,rfl⟩
   have HA:=ae hA
   have HT:=ae hT
   have hHl:(iZ S σ (ms X)).length=X.length:=by rw [jJ,aY]
   obtain⟨hva,hvc,hvv⟩:=aW (lL hA)
   rw [hHl] at hvv
   subst hvv
   have g2:=(bF hA).cell 2
   have k7:=(Yr hA).bx.cell 0
   simp only [fQ,fP] at g2 k7
   have hgl:=(bF hA).lt
   have hSs:=hT.lim
   rw [aY] at hSs
   have hXp:0 < X.length:=by
    obtain⟨_,m0,hm0⟩:=hT.tw.zero
    have:=kH ⟨m0,hm0⟩
    rwa [aY] at this
   have HHl:=ae hHl
   clear hA hT hHl
   by_cases hgo:i < n∧X.length < 300
   ·obtain⟨hin,hx3⟩:=hgo
    have hii:(i:Int) < (n:Int):=by omega
    have hxx:decide ((X.length:Int) < 300)=true:=by simp;omega
    obtain⟨bo,off,rfl,hbl,hc⟩:=HP.out (by omega)
    obtain⟨p0,p1,p2,p3,p4,p5,p6,p7⟩:=hc i hin
    clear hc
    go_upto_region 7 with fail
    haveI hne:Nonempty (dS (Zp w b7 g)):=⟨⟨ws,Yr HA.out⟩⟩
    have y7:=fun(x:dS (Zp w b7 g))=>x.h.bx.cell 0
    have y0:=fun(x:dS (Zp w b7 g))=>aU x.h.lo p0
    have y1:=fun(x:dS (Zp w b7 g))=>aU x.h.lo p1
    have y2:=fun(x:dS (Zp w b7 g))=>aU x.h.lo p2
    have y3:=fun(x:dS (Zp w b7 g))=>aU x.h.lo p3
    have y4:=fun(x:dS (Zp w b7 g))=>aU x.h.lo p4
    have y5:=fun(x:dS (Zp w b7 g))=>aU x.h.lo p5
    have y6:=fun(x:dS (Zp w b7 g))=>aU x.h.lo p6
    have y8:=fun(x:dS (Zp w b7 g))=>aU x.h.lo p7
    simp only [List.getElem?_cons_zero] at y7
    clear p0 p1 p2 p3 p4 p5 p6 p7 g2 hgl k7
    refine qP (Zp w b7 g) (TF ws (fun v w'=>E8 True (fun _=>False) i 0 w.heap.size w (Y0 w.heap.size b7 g) g R Q S K d (ms X) σ (f i) (.returned v) w')) (fun _ v=>∃v0 ok,v=.tuple #[v0,.bool ok]) 6 (by kernel_rfl) (by kernel_rfl) (Aj (zaa HA.out) Z9) (kL Zw) (ak _ _) ?_
    simp only [mD,mr,l9,lZ]
    repeat (first
     | (refine RV.aN (by rfl) (by rfl) (fun K hK=>?_);go_big_quiet_step (fail);refine az ?_;refine hK.out _ ?_;clear hK K)
     | (refine RV.aK (by rfl) ?_;simp only [Act.put,dL,dK,dJ]))
    refine RV.dM (by rfl) (by rfl) (fun w=>by go_simp;exact⟨rfl,rfl⟩) (⟨_,.slice none 0 0,false,rfl⟩) (fun X wx hx=>?_) (fun v hv=>?_)
    ·have hx2:Below ws.heap.size ws wx:=hx
     refine(UG (HL.out.below (HA.out.still hx2).below) (HA.out.still hx2) HT.out hX6 (by omega) (fun _=>by omega) (by omega) (f i) ((HF.out i).ok (HS.out i hin)) (fun y h=>h.elim)).mono ?_
     rintro e wy ⟨v,ok,S',K',d',X',σ',hv',sv',fv',nv',ts,rs,dl,rfl,h⟩
     exact⟨_,rfl,⟨v,ok,rfl⟩,v,ok,S',K',d',X',σ',hv',sv',fv',nv',ts,rs,dl,rfl,h⟩
    obtain⟨v0',ok',rfl⟩:=hv
    simp only [Act.put,dL,dK,dJ]
    repeat (first
     | (refine RV.aN (by rfl) (by rfl) (fun K hK=>?_);go_big_quiet_step (fail);refine az ?_;refine hK.out _ ?_;clear hK K)
     | (refine RV.aK (by rfl) ?_;simp only [Act.put,dL,dK,dJ]))
    refine RV.eH ?_
    rintro w5 ⟨v,ok,S',K',d',X',σ',hv',sv',fv',nv',ts,rs,dl,e5,hA5,hT5,hex,_,_,_,hst,_⟩
    have hl5:=hst.len (N:=S.slots.length) (fun f j m hj=>HT.out.tw.oz HT.out.ok.lk f hj) (by
     obtain⟨n,hn,_⟩:=HT.out.ok.doc
     have:=iy hn
     omega)
    rw [aY,aY] at hl5
    have HA5:=ae hA5.tail
    have HT5:=ae hT5
    clear hA5 hT5 hex hst y0 y1 y2 y3 y4 y5 y6 y7 y8 hne e5
    go_wp2_with fail
    go_roundw
    case rel=>exact⟨i+1,by omega,by go_num,_,_,_,_,_,_,_,_,_,_,_,HA5.out,HT5.out,by omega⟩
    case measure=>simp [iW];omega
   ·rcases(show n≤i∨(i < n∧300≤X.length) by omega) with h1 | ⟨h1,h2⟩
    all_goals
     first
      | (have h3:=h2;have hii:(i:Int) < (n:Int):=(by omega);have hxx:decide ((X.length:Int) < 300)=false:=(by simp;omega))
      | (obtain rfl:i=n:=by omega)
     clear hgo
     obtain⟨xi,hxi⟩:∃xi,xi=a % X.length:=⟨_,rfl⟩
     obtain⟨yi,hyi⟩:∃yi,yi=b % X.length:=⟨_,rfl⟩
     have hxl:xi < X.length:=by rw [hxi];exact jr _ hXp
     have hyl:yi < X.length:=by rw [hyi];exact jr _ hXp
     have hra:(a:Int) % (X.length:Int)=((xi:Nat):Int):=by rw [hxi];rfl
     have hrb:(b:Int) % (X.length:Int)=((yi:Nat):Int):=by rw [hyi];rfl
     have hn0:¬(X.length:Int)=0:=by omega
     clear hxi hyi
     go_upto_region 8 with fail
     have hne:=gI ws
     have y0:=fun(x:dS (jc ws))=>(bF (HA.out.still x.h)).cell 2
     have y7:=fun(x:dS (jc ws))=>(Yr (HA.out.still x.h)).bx.cell 0
     simp only [fQ,fP] at y0 y7
     clear g2 hgl k7
     refine mW (fun _ _=>True) (fun _ _=>True) 18 (by kernel_rfl) (by kernel_rfl) (fun _ _ _ _ _=>trivial) trivial ?_
     simp only [mD,mr,l9,lZ]
     repeat (first
      | (refine RV.aN (by rfl) (by rfl) (fun K hK=>?_);go_big_quiet_step (fail);refine az ?_;refine hK.out _ ?_;clear hK K)
      | (refine RV.aK (by rfl) ?_;simp only [Act.put,dL,dK,dJ]))
     refine RV.eH ?_
     intro w5 hb5 _
     have HA5:=ae (HA.out.still hb5)
     clear y0 y7 hne hb5
     go_upto_region 9 with fail
     as_aux_lemma =>
      obtain⟨hdx,hhdx,hhox,hcx⟩:=zI HT.out (i:=xi) (by rw [aY];exact hxl)
      obtain⟨hdy,hhdy,hhoy,hcy⟩:=zI HT.out (i:=yi) (by rw [aY];exact hyl)
      obtain⟨gh,rfl,hghl,hghx⟩:=jk HA5.out HHl.out _ _ hhdx
      obtain⟨gh',e2,_,hghy⟩:=jk HA5.out HHl.out _ _ hhdy
      cases e2
      obtain⟨gs,caps,rfl⟩:=fO (jF HA5.out) (by have:=HT.out.ok.doc;obtain⟨n,hn,_⟩:=this;have:=iy hn;omega)
      have HCx:=ae hcx
      have HCy:=ae hcy
      have Hhx:=ae hhdx
      have Hhy:=ae hhdy
      clear hcx hcy hhdx hhdy
      rcases HCx.out with ⟨mx,nx,hmx,hnx,rfl⟩ | ⟨hmx,rfl,hix⟩
      case inr =>
       as_aux_lemma =>
        have HMx:=ae hmx
        clear hmx
        have hne:=gI w5
        have y0:=fun(x:dS (jc w5))=>(bF (HA5.out.still x.h)).cell 0
        have y1:=fun(x:dS (jc w5))=>(bF (HA5.out.still x.h)).cell 1
        have y2:=fun(x:dS (jc w5))=>(bF (HA5.out.still x.h)).cell 2
        have y7:=fun(x:dS (jc w5))=>(Yr (HA5.out.still x.h)).bx.cell 0
        have yx:=fun(x:dS (jc w5))=>aU x.h hghx
        have yy:=fun(x:dS (jc w5))=>aU x.h hghy
        simp only [fQ,fP] at y0 y1 y2 y7
        refine mW (fun _ _=>True) (fun _ v=>v=.tuple #[.int .i64 0,.int .i64 6]) 24 (by kernel_rfl) (by kernel_rfl) (fun _ _ _ _ _=>trivial) trivial ?_
        simp only [mD,mr,l9,lZ]
        repeat (first
         | (refine RV.aN (by rfl) (by rfl) (fun K hK=>?_);go_big_quiet_step (fail);refine az ?_;refine hK.out _ ?_;clear hK K)
         | (refine RV.aK (by rfl) ?_;simp only [Act.put,dL,dK,dJ]))
        refine RV.dM (by rfl) (by rfl) (fun w=>by go_simp;exact⟨rfl,rfl⟩) (⟨_,rfl⟩) (fun X wx hx=>?_) (fun v hv=>?_)
        ·refine(Zg (jF (HA5.out.still hx.1)) (-1) hdy hhox hix).mono ?_
         rintro e wy ⟨rfl,hb⟩
         exact⟨_,rfl,rfl,aV hx.1 hb,trivial⟩
        obtain rfl:v=.tuple #[.int .i64 0,.int .i64 6]:=hv
        simp only [Act.put,dL,dK,dJ]
        repeat (first
         | (refine RV.aN (by rfl) (by rfl) (fun K hK=>?_);go_big_quiet_step (fail);refine az ?_;refine hK.out _ ?_;clear hK K)
         | (refine RV.aK (by rfl) ?_;simp only [Act.put,dL,dK,dJ]))
        refine RV.eH ?_
        intro w6 hb' _
        have HA6:=ae (HA5.out.still hb')
        have hgx6:=aU hb' hghx
        have hgy6:=aU hb' hghy
        have z7:=(Yr HA6.out).bx.cell 0
        have z1:=(bF HA6.out).cell 1
        simp only [fQ,fP] at z7 z1
        clear y0 y1 y2 y7 yx yy hne hb' hghx hghy
        go_wp2_with fail
        refine(has_is HA6.out xi (by omega) ⟨hXp,by omega⟩ (by rw [HMx.out];rfl:_=false)).mono ?_
        rintro e wy ⟨rfl,hw⟩
        rw [hw]
        clear hw
        go_upto_region 11 with fail
        have hghx:=hgx6
        have hghy:=hgy6
        clear hgx6 hgy6 z7 z1
        have hne:=gI w6
        have y0:=fun(x:dS (jc w6))=>(bF (HA6.out.still x.h)).cell 0
        have y1:=fun(x:dS (jc w6))=>(bF (HA6.out.still x.h)).cell 1
        have y2:=fun(x:dS (jc w6))=>(bF (HA6.out.still x.h)).cell 2
        have y7:=fun(x:dS (jc w6))=>(Yr (HA6.out.still x.h)).bx.cell 0
        have yx:=fun(x:dS (jc w6))=>aU x.h hghx
        have yy:=fun(x:dS (jc w6))=>aU x.h hghy
        simp only [fQ,fP] at y0 y1 y2 y7
        refine mW (fun _ _=>True) (fun _ v=>v=.bool false) 28 (by kernel_rfl) (by kernel_rfl) (fun _ _ _ _ _=>trivial) trivial ?_
        simp only [mD,mr,l9,lZ]
        repeat (first
         | (refine RV.aN (by rfl) (by rfl) (fun K hK=>?_);go_big_quiet_step (fail);refine az ?_;refine hK.out _ ?_;clear hK K)
         | (refine RV.aK (by rfl) ?_;simp only [Act.put,dL,dK,dJ]))
        refine RV.dM (by rfl) (by rfl) (fun w=>by go_simp;exact⟨rfl,rfl⟩) (⟨_,rfl⟩) (fun X wx hx=>?_) (fun v hv=>?_)
        ·refine(Zk (jF (HA6.out.still hx.1)) (-1) hdy hhox hix).mono ?_
         rintro e wy ⟨rfl,hb⟩
         exact⟨_,rfl,rfl,aV hx.1 hb,trivial⟩
        obtain rfl:v=.bool false:=hv
        simp only [Act.put,dL,dK,dJ]
        repeat (first
         | (refine RV.aN (by rfl) (by rfl) (fun K hK=>?_);go_big_quiet_step (fail);refine az ?_;refine hK.out _ ?_;clear hK K)
         | (refine RV.aK (by rfl) ?_;simp only [Act.put,dL,dK,dJ]))
        refine RV.eH ?_
        intro w7 hb' _
        have HA7:=ae (HA6.out.still hb')
        have k6:dD w7 w.heap.size [.bool false] 4:=HA7.out.P (bk w.heap.size _ _) (by simp [Y0])
        have c6:=k6.cell 0
        simp only [List.getElem?_cons_zero] at c6
        have f6:=k6.free
        have l6:=k6.lt
        obtain⟨r1,r2⟩:=YG k6 HA7.out.below (au _) true
        have R1:=ae r1
        have R2:=ae r2
        clear y0 y1 y2 y7 yx yy hne hb' r1 r2 k6
        go_wp2_with fail
        refine⟨.bool true,?_,rfl,R2.out⟩
        simp [results,Tryz.f9,go_sem,R1.out]
      case inl =>
       rcases HCy.out with ⟨my,ny,hmy,hny,rfl⟩ | ⟨hmy,rfl,hiy⟩
       case inr =>
        as_aux_lemma =>
         have HMy:=ae hmy
         have HMx:=ae hmx
         clear hmy hmx
         have hne:=gI w5
         have y0:=fun(x:dS (jc w5))=>(bF (HA5.out.still x.h)).cell 0
         have y1:=fun(x:dS (jc w5))=>(bF (HA5.out.still x.h)).cell 1
         have y2:=fun(x:dS (jc w5))=>(bF (HA5.out.still x.h)).cell 2
         have y7:=fun(x:dS (jc w5))=>(Yr (HA5.out.still x.h)).bx.cell 0
         have yx:=fun(x:dS (jc w5))=>aU x.h hghx
         have yy:=fun(x:dS (jc w5))=>aU x.h hghy
         simp only [fQ,fP] at y0 y1 y2 y7
         refine mW (fun _ _=>True) (fun _ v=>v=.tuple #[.int .i64 0,.int .i64 6]) 24 (by kernel_rfl) (by kernel_rfl) (fun _ _ _ _ _=>trivial) trivial ?_
         simp only [mD,mr,l9,lZ]
         repeat (first
          | (refine RV.aN (by rfl) (by rfl) (fun K hK=>?_);go_big_quiet_step (fail);refine az ?_;refine hK.out _ ?_;clear hK K)
          | (refine RV.aK (by rfl) ?_;simp only [Act.put,dL,dK,dJ]))
         refine RV.dM (by rfl) (by rfl) (fun w=>by go_simp;exact⟨rfl,rfl⟩) (⟨_,rfl⟩) (fun X wx hx=>?_) (fun v hv=>?_)
         ·refine(Zf (jF (HA5.out.still hx.1)) HT.out.ok.lk (σ xi) nx hnx (-1) hhoy hiy).mono ?_
          rintro e wy ⟨rfl,hb⟩
          exact⟨_,rfl,rfl,aV hx.1 hb,trivial⟩
         obtain rfl:v=.tuple #[.int .i64 0,.int .i64 6]:=hv
         simp only [Act.put,dL,dK,dJ]
         repeat (first
          | (refine RV.aN (by rfl) (by rfl) (fun K hK=>?_);go_big_quiet_step (fail);refine az ?_;refine hK.out _ ?_;clear hK K)
          | (refine RV.aK (by rfl) ?_;simp only [Act.put,dL,dK,dJ]))
         refine RV.eH ?_
         intro w6 hb' _
         have HA6:=ae (HA5.out.still hb')
         have hgx6:=aU hb' hghx
         have hgy6:=aU hb' hghy
         have z7:=(Yr HA6.out).bx.cell 0
         have z1:=(bF HA6.out).cell 1
         simp only [fQ,fP] at z7 z1
         clear y0 y1 y2 y7 yx yy hne hb' hghx hghy
         go_wp2_with fail
         refine(has_is HA6.out xi (by omega) ⟨hXp,by omega⟩ (by rw [HMx.out];rfl:_=true)).mono ?_
         rintro e wy ⟨rfl,hw⟩
         rw [hw]
         clear hw
         go_wp2_with fail
         refine(has_is HA6.out yi (by omega) ⟨hXp,by omega⟩ (by rw [HMy.out];rfl:_=false)).mono ?_
         rintro e wy ⟨rfl,hw⟩
         rw [hw]
         clear hw
         go_upto_region 11 with fail
         have hghx:=hgx6
         have hghy:=hgy6
         clear hgx6 hgy6 z7 z1
         have hne:=gI w6
         have y0:=fun(x:dS (jc w6))=>(bF (HA6.out.still x.h)).cell 0
         have y1:=fun(x:dS (jc w6))=>(bF (HA6.out.still x.h)).cell 1
         have y2:=fun(x:dS (jc w6))=>(bF (HA6.out.still x.h)).cell 2
         have y7:=fun(x:dS (jc w6))=>(Yr (HA6.out.still x.h)).bx.cell 0
         have yx:=fun(x:dS (jc w6))=>aU x.h hghx
         have yy:=fun(x:dS (jc w6))=>aU x.h hghy
         simp only [fQ,fP] at y0 y1 y2 y7
         refine mW (fun _ _=>True) (fun _ v=>v=.bool false) 28 (by kernel_rfl) (by kernel_rfl) (fun _ _ _ _ _=>trivial) trivial ?_
         simp only [mD,mr,l9,lZ]
         repeat (first
          | (refine RV.aN (by rfl) (by rfl) (fun K hK=>?_);go_big_quiet_step (fail);refine az ?_;refine hK.out _ ?_;clear hK K)
          | (refine RV.aK (by rfl) ?_;simp only [Act.put,dL,dK,dJ]))
         refine RV.dM (by rfl) (by rfl) (fun w=>by go_simp;exact⟨rfl,rfl⟩) (⟨_,rfl⟩) (fun X wx hx=>?_) (fun v hv=>?_)
         ·refine(Zj (jF (HA6.out.still hx.1)) HT.out.ok.lk (σ xi) nx hnx (-1) hhoy hiy).mono ?_
          rintro e wy ⟨rfl,hb⟩
          exact⟨_,rfl,rfl,aV hx.1 hb,trivial⟩
         obtain rfl:v=.bool false:=hv
         simp only [Act.put,dL,dK,dJ]
         repeat (first
          | (refine RV.aN (by rfl) (by rfl) (fun K hK=>?_);go_big_quiet_step (fail);refine az ?_;refine hK.out _ ?_;clear hK K)
          | (refine RV.aK (by rfl) ?_;simp only [Act.put,dL,dK,dJ]))
         refine RV.eH ?_
         intro w7 hb' _
         have HA7:=ae (HA6.out.still hb')
         have k6:dD w7 w.heap.size [.bool false] 4:=HA7.out.P (bk w.heap.size _ _) (by simp [Y0])
         have c6:=k6.cell 0
         simp only [List.getElem?_cons_zero] at c6
         have f6:=k6.free
         have l6:=k6.lt
         obtain⟨r1,r2⟩:=YG k6 HA7.out.below (au _) true
         have R1:=ae r1
         have R2:=ae r2
         clear y0 y1 y2 y7 yx yy hne hb' r1 r2 k6
         go_wp2_with fail
         refine⟨.bool true,?_,rfl,R2.out⟩
         simp [results,Tryz.f9,go_sem,R1.out]
       case inl =>
        have HMy:=ae hmy
        have HMx:=ae hmx
        have HNx:=ae hnx
        have HNy:=ae hny
        obtain⟨c1,c2,hcc⟩:∃c1 c2,YP S K d (σ xi) (σ yi)=(c1,c2):=⟨_,_,rfl⟩
        have hof:=ZC HT.out hmx hmy
        obtain⟨htt,mt,hmt⟩:=YU HT.out (d (σ xi)) xi mx hmx
        have hcont:=HT.out.tw.cont HT.out.ok.lk hmx (d (σ yi)) yi my hmy
        have hwlen:∀f i m,lv (ms X) i=some m→(dR (kM (ms X)) f i).length≤100000:=fun f i m hi=>by
         have:=HT.out.tw.oz HT.out.ok.lk f hi
         omega
        have HWl:=ae hwlen
        have hMW:=HT.out.tw.mw HT.out.ok.lk
        have HMW:=ae hMW
        have hwlive:=fun f=>HT.out.tw.qO f _ mt hmt
        obtain⟨tx,htx⟩:∃tx,tx=Yq (ms X) (d (σ xi)) xi:=⟨_,rfl⟩
        rw [← htx] at hof htt hmt hwlive
        obtain⟨wl,hwl⟩:∃wl,wl=dR (kM (ms X)) (128 - d (σ tx)) tx:=⟨_,rfl⟩
        rw [← hwl] at hof
        have hwll:wl.length≤100000:=by rw [hwl];exact hwlen _ _ mt hmt
        have hlt:=kH ⟨mt,hmt⟩
        rw [aY] at hlt
        have hhdt:=A7 (S:=S) (σ:=σ) hmt
        obtain⟨gh',e2,_,hght⟩:=jk HA5.out HHl.out _ _ hhdt
        cases e2
        obtain⟨bc,hbc⟩:∃bc,bc=oQ (ms X) xi (d (σ yi)) (some yi):=⟨_,rfl⟩
        rw [← hbc] at hcont
        have HCmp:=ae (fun wx (hb:Below w5.heap.size w5 wx)=>(show Calls Tryz.prog 34 #[.pointer (some ⟨R,0,none⟩),.int .i64 (S.hd (σ xi)),.int .i64 (S.hd (σ yi))] wx fun e w'=>e=.returned (.tuple #[.int .i64 c1,.int .i64 c2])∧Below wx.heap.size wx w' from by
         have:=YQ (jF (HA5.out.still hb)) HT.out.ok.lk (σ xi) (σ yi) nx ny HNx.out HNy.out
         rw [hcc] at this
         exact this))
        have HCon:=ae (fun wx (hb:Below w5.heap.size w5 wx)=>(show Calls Tryz.prog 32 #[.pointer (some ⟨R,0,none⟩),.int .i64 (S.hd (σ xi)),.int .i64 (S.hd (σ yi))] wx fun e w'=>e=.returned (.bool bc)∧Below wx.heap.size wx w' from by
         have:=Ij (jF (HA5.out.still hb)) HT.out.ok.lk (σ xi) (σ yi) nx ny HNx.out HNy.out
         rw [hcont] at this
         exact this))
        have HCom:=ae (fun wx (hb:Below w5.heap.size w5 wx)=>(show Calls Tryz.prog 35 #[.pointer (some ⟨Q,0,none⟩),.int .i64 (xi:Int),.int .i64 (yi:Int)] wx fun e w'=>e=.returned (.bool bc)∧w'=wx from by
         rw [hbc]
         obtain⟨gm,capm,enm⟩:=(lG (HA5.out.still hb)).W.shape hXp
         have hM:=(lG (HA5.out.still hb)).W
         rw [enm] at hM
         exact EK hM HMW.out xi yi (by omega) HMy.out))
        have HTop:=ae (fun wx (hb:Below w5.heap.size w5 wx)=>(show Calls Tryz.prog 29 #[.pointer (some ⟨R,0,none⟩),.int .i64 (S.hd (σ xi))] wx fun e w'=>e=.returned (.int .i64 (S.hd (σ tx)))∧Below wx.heap.size wx w' from by
         have:=YJ (jF (HA5.out.still hb)) HT.out.ok.lk (σ xi) nx HNx.out
         rw [← htt] at this
         exact this))
        have HTom:=ae (fun wx (hb:Below w5.heap.size w5 wx)=>(show Calls Tryz.prog 36 #[.pointer (some ⟨Q,0,none⟩),.int .i64 (xi:Int)] wx fun e w'=>e=.returned (.int .i64 (tx:Int))∧w'=wx from by
         rw [htx]
         obtain⟨gm,capm,enm⟩:=(lG (HA5.out.still hb)).W.shape hXp
         have hM:=(lG (HA5.out.still hb)).W
         rw [enm] at hM
         exact ZG hM HMW.out xi HMx.out))
        have HWal:=ae (fun wx (hb:Below w5.heap.size w5 wx) (z:Nat) (mz:MN) (hz:lv (ms X) z=some mz)=>(show Calls Tryz.prog 37 #[.pointer (some ⟨Q,0,none⟩),.int .i64 (z:Int)] wx fun e w'=>∃v,e=.returned v∧w'.ownsRow wx.heap.size 3 1 v (dR (kM (ms X)) (128 - d (σ z)) z).length (kC (dR (kM (ms X)) (128 - d (σ z)) z))∧Below wx.heap.size wx w' from by
         obtain⟨gm,capm,enm⟩:=(lG (HA5.out.still hb)).W.shape hXp
         have hM:=(lG (HA5.out.still hb)).W
         rw [enm] at hM
         exact Oa HMW.out HWl.out _ z mz hz rfl wx hM))
        have HOf:=ae hof
        have Hcc:=ae hcc
        have Hmt:=ae hmt
        have Hwl:=ae hwl
        clear hmy hmx hnx hny hof htt hmt hcont hwlen hMW hwlive htx hwl hbc hcc hhdt
        have hne:=gI w5
        have y0:=fun(x:dS (jc w5))=>(bF (HA5.out.still x.h)).cell 0
        have y1:=fun(x:dS (jc w5))=>(bF (HA5.out.still x.h)).cell 1
        have y2:=fun(x:dS (jc w5))=>(bF (HA5.out.still x.h)).cell 2
        have y7:=fun(x:dS (jc w5))=>(Yr (HA5.out.still x.h)).bx.cell 0
        have yx:=fun(x:dS (jc w5))=>aU x.h hghx
        have yy:=fun(x:dS (jc w5))=>aU x.h hghy
        simp only [fQ,fP] at y0 y1 y2 y7
        refine mW (fun _ _=>True) (fun _ v=>v=.tuple #[.int .i64 c1,.int .i64 c2]) 24 (by kernel_rfl) (by kernel_rfl) (fun _ _ _ _ _=>trivial) trivial ?_
        simp only [mD,mr,l9,lZ]
        repeat (first
         | (refine RV.aN (by rfl) (by rfl) (fun K hK=>?_);go_big_quiet_step (fail);refine az ?_;refine hK.out _ ?_;clear hK K)
         | (refine RV.aK (by rfl) ?_;simp only [Act.put,dL,dK,dJ]))
        refine RV.dM (by rfl) (by rfl) (fun w=>by go_simp;exact⟨rfl,rfl⟩) (⟨_,rfl⟩) (fun X wx hx=>?_) (fun v hv=>?_)
        ·refine(HCmp.out _ hx.1).mono ?_
         rintro e wy ⟨rfl,hb⟩
         exact⟨_,rfl,rfl,aV hx.1 hb,trivial⟩
        obtain rfl:v=.tuple #[.int .i64 c1,.int .i64 c2]:=hv
        simp only [Act.put,dL,dK,dJ]
        repeat (first
         | (refine RV.aN (by rfl) (by rfl) (fun K hK=>?_);go_big_quiet_step (fail);refine az ?_;refine hK.out _ ?_;clear hK K)
         | (refine RV.aK (by rfl) ?_;simp only [Act.put,dL,dK,dJ]))
        refine RV.eH ?_
        intro w6 hb' _
        have HA6:=ae (HA5.out.still hb')
        have HB6:=ae hb'
        have z7:=(Yr HA6.out).bx.cell 0
        have z1:=(bF HA6.out).cell 1
        simp only [fQ,fP] at z7 z1
        clear y0 y1 y2 y7 yx yy hne hb'
        go_wp2_with fail
        refine(has_is HA6.out xi (by omega) ⟨hXp,by omega⟩ (by rw [HMx.out];rfl:_=true)).mono ?_
        rintro e wy ⟨rfl,hw⟩
        rw [hw]
        clear hw
        go_wp2_with fail
        refine(has_is HA6.out yi (by omega) ⟨hXp,by omega⟩ (by rw [HMy.out];rfl:_=true)).mono ?_
        rintro e wy ⟨rfl,hw⟩
        rw [hw]
        clear hw
        go_upto_region 12 with fail
        have hgx6:=aU HB6.out hghx
        have hgy6:=aU HB6.out hghy
        have hgt6:=aU HB6.out hght
        clear z7 z1 hghx hghy hght
        have hghx:=hgx6
        have hghy:=hgy6
        have hght:=hgt6
        clear hgx6 hgy6 hgt6
        have hne:=gI w6
        have y0:=fun(x:dS (jc w6))=>(bF (HA6.out.still x.h)).cell 0
        have y1:=fun(x:dS (jc w6))=>(bF (HA6.out.still x.h)).cell 1
        have y2:=fun(x:dS (jc w6))=>(bF (HA6.out.still x.h)).cell 2
        have y7:=fun(x:dS (jc w6))=>(Yr (HA6.out.still x.h)).bx.cell 0
        have yx:=fun(x:dS (jc w6))=>aU x.h hghx
        have yy:=fun(x:dS (jc w6))=>aU x.h hghy
        simp only [fQ,fP] at y0 y1 y2 y7
        have yt:=fun(x:dS (jc w6))=>aU x.h hght
        have htn:(tx:Int) < (X.length:Int):=by omega
        refine mW (fun _ _=>True) (VO4 bc (S.hd (σ tx)) (tx:Int)) 54 (by kernel_rfl) (by kernel_rfl) (fun _ _ _ _ _=>trivial) trivial ?_
        simp only [mD,mr,l9,lZ]
        repeat (first
         | (refine RV.aN (by rfl) (by rfl) (fun K hK=>?_);go_big_quiet_step (fail);refine az ?_;refine hK.out _ ?_;clear hK K)
         | (refine RV.aK (by rfl) ?_;simp only [Act.put,dL,dK,dJ]))
        refine RV.dM (by rfl) (by rfl) (fun w=>by go_simp;exact⟨rfl,rfl⟩) (⟨_,rfl⟩) (fun X wx hx=>?_) (fun v hv=>?_)
        ·refine(HCon.out _ (aV HB6.out hx.1)).mono ?_
         rintro e wy ⟨rfl,hb⟩
         exact⟨_,rfl,rfl,aV hx.1 hb,trivial⟩
        obtain rfl:v=.bool bc:=hv
        simp only [Act.put,dL,dK,dJ]
        repeat (first
         | (refine RV.aN (by rfl) (by rfl) (fun K hK=>?_);go_big_quiet_step (fail);refine az ?_;refine hK.out _ ?_;clear hK K)
         | (refine RV.aK (by rfl) ?_;simp only [Act.put,dL,dK,dJ]))
        refine RV.dM (by rfl) (by rfl) (fun w=>by go_simp;exact⟨rfl,rfl⟩) (⟨_,rfl⟩) (fun X wx hx=>?_) (fun v hv=>?_)
        ·refine(HCom.out _ (aV HB6.out hx.1)).mono ?_
         rintro e wy ⟨rfl,hw⟩
         exact⟨_,rfl,rfl,by rw [hw];exact hx.1,trivial⟩
        obtain rfl:v=.bool bc:=hv
        simp only [Act.put,dL,dK,dJ]
        repeat (first
         | (refine RV.aN (by rfl) (by rfl) (fun K hK=>?_);go_big_quiet_step (fail);refine az ?_;refine hK.out _ ?_;clear hK K)
         | (refine RV.aK (by rfl) ?_;simp only [Act.put,dL,dK,dJ]))
        refine RV.dM (by rfl) (by rfl) (fun w=>by go_simp;exact⟨rfl,rfl⟩) (⟨_,rfl⟩) (fun X wx hx=>?_) (fun v hv=>?_)
        ·refine(HTop.out _ (aV HB6.out hx.1)).mono ?_
         rintro e wy ⟨rfl,hb⟩
         exact⟨_,rfl,rfl,aV hx.1 hb,trivial⟩
        obtain rfl:v=.int .i64 (S.hd (σ tx)):=hv
        simp only [Act.put,dL,dK,dJ]
        repeat (first
         | (refine RV.aN (by rfl) (by rfl) (fun K hK=>?_);go_big_quiet_step (fail);refine az ?_;refine hK.out _ ?_;clear hK K)
         | (refine RV.aK (by rfl) ?_;simp only [Act.put,dL,dK,dJ]))
        refine RV.dM (by rfl) (by rfl) (fun w=>by go_simp;exact⟨rfl,rfl⟩) (⟨_,rfl⟩) (fun X wx hx=>?_) (fun v hv=>?_)
        ·refine(HTom.out _ (aV HB6.out hx.1)).mono ?_
         rintro e wy ⟨rfl,hw⟩
         exact⟨_,rfl,rfl,by rw [hw];exact hx.1,trivial⟩
        obtain rfl:v=.int .i64 (tx:Int):=hv
        simp only [Act.put,dL,dK,dJ]
        repeat (first
         | (refine RV.aN (by rfl) (by rfl) (fun K hK=>?_);go_big_quiet_step (fail);refine az ?_;refine hK.out _ ?_;clear hK K)
         | (refine RV.aK (by rfl) ?_;simp only [Act.put,dL,dK,dJ]))
        refine RV.eH ?_
        intro w7 hb7 _
        have HA7:=ae (HA6.out.still hb7)
        have HB7:=ae (aV HB6.out hb7)
        have hgx7:=aU hb7 hghx
        have hgy7:=aU hb7 hghy
        clear y0 y1 y2 y7 yx yy hne yt hb7 hghx hghy hght
        have hghx:=hgx7
        have hghy:=hgy7
        clear hgx7 hgy7
        go_upto_region 14 with fail
        have hne:=gI w7
        have y0:=fun(x:dS (jc w7))=>(bF (HA7.out.still x.h)).cell 0
        have y1:=fun(x:dS (jc w7))=>(bF (HA7.out.still x.h)).cell 1
        have y2:=fun(x:dS (jc w7))=>(bF (HA7.out.still x.h)).cell 2
        have y7:=fun(x:dS (jc w7))=>(Yr (HA7.out.still x.h)).bx.cell 0
        have yx:=fun(x:dS (jc w7))=>aU x.h hghx
        have yy:=fun(x:dS (jc w7))=>aU x.h hghy
        simp only [fQ,fP] at y0 y1 y2 y7
        refine mW (FO2 w7.heap.size wl) (VO2 (tx:Int) wl.length) 12 (by kernel_rfl) (by kernel_rfl) Zu trivial ?_
        simp only [mD,mr,l9,lZ]
        repeat (first
         | (refine RV.aN (by rfl) (by rfl) (fun K hK=>?_);go_big_quiet_step (fail);refine az ?_;refine hK.out _ ?_;clear hK K)
         | (refine RV.aK (by rfl) ?_;simp only [Act.put,dL,dK,dJ]))
        refine RV.dM (by rfl) (by rfl) (fun w=>by go_simp;exact⟨rfl,rfl⟩) (⟨_,rfl⟩) (fun X wx hx=>?_) (fun v hv=>?_)
        ·refine(HTom.out _ (aV HB7.out hx.1)).mono ?_
         rintro e wy ⟨rfl,hw⟩
         exact⟨_,rfl,rfl,by rw [hw];exact hx.1,trivial⟩
        obtain rfl:v=.int .i64 (tx:Int):=hv
        simp only [Act.put,dL,dK,dJ]
        repeat (first
         | (refine RV.aN (by rfl) (by rfl) (fun K hK=>?_);go_big_quiet_step (fail);refine az ?_;refine hK.out _ ?_;clear hK K)
         | (refine RV.aK (by rfl) ?_;simp only [Act.put,dL,dK,dJ]))
        refine RV.dM (by rfl) (by rfl) (fun w=>by go_simp;exact⟨rfl,rfl⟩) (⟨_,none,0,rfl⟩) (fun X wx hx=>?_) (fun v hv=>?_)
        ·refine(HWal.out _ (aV HB7.out hx.1) tx mt Hmt.out).mono ?_
         rintro e wy ⟨v,rfl,ho,hb⟩
         rw [← Hwl.out] at ho
         obtain⟨va,vc,rfl⟩:=bP ho
         exact⟨_,rfl,⟨va,vc,rfl⟩,aV hx.1 hb,iD ho hx.1.size⟩
        obtain⟨va,vc,rfl⟩:=hv
        simp only [Act.put,dL,dK,dJ]
        repeat (first
         | (refine RV.aN (by rfl) (by rfl) (fun K hK=>?_);go_big_quiet_step (fail);refine az ?_;refine hK.out _ ?_;clear hK K)
         | (refine RV.aK (by rfl) ?_;simp only [Act.put,dL,dK,dJ]))
        refine RV.eH ?_
        intro w8 hb8 hF8
        have HA8:=ae (HA7.out.still hb8)
        have HB8:=ae (aV HB7.out hb8)
        have HO8:=ae (iD (show w8.ownsRow w7.heap.size 3 1 (.slice va wl.length vc) wl.length (kC wl) from hF8) (aZ _))
        have hgx8:=aU hb8 hghx
        have hgy8:=aU hb8 hghy
        clear y0 y1 y2 y7 yx yy hne hb8 hF8 hghx hghy
        have hghx:=hgx8
        have hghy:=hgy8
        clear hgx8 hgy8
        go_upto_region 16 with fail
        have hb9:=(ak w8.heap.size w8).alloc (au _) (.cells #[.string ⟨#[]⟩] 9)
        have hA9:=HA8.out.sO [.string ⟨#[]⟩] 9
        have HO9:=ae (bH HO8.out hb9)
        have HB9:=ae (aV HB8.out hb9)
        have hgx9:=aU hb9 hghx
        have hgy9:=aU hb9 hghy
        have HA9:=ae hA9
        clear hb9 hghx hghy hA9
        have hghx:=hgx9
        have hghy:=hgy9
        clear hgx9 hgy9
        generalize w8.alloc (.cells #[.string ⟨#[]⟩] 9)=w9 at *
        generalize w8.heap.size=b16 at *
        go_wp2_with fail
        go_loopw [14,15,17] (fun iv jv kv wr=>OpP w9 wl xi yi iv jv kv wr) (fun _ _ kv _=>wl.length - iW kv)
        case atStart=>exact⟨rfl,0,aZ _,rfl,by rw [YR],by rw [YR]⟩
        case round =>
         obtain⟨hw,k,hk,rfl,rfl,rfl⟩:=hrel
         rw [hw]
         clear hw
         by_cases hlt2:k < wl.length
         ·obtain⟨z,hz⟩:∃z,wl[k]? = some z:=⟨_,ay hlt2⟩
          obtain⟨gk,e1,q1⟩:=uu HO9.out hz
          cases e1
          have hki:(k:Int) < (wl.length:Int):=by omega
          have hPx:Yw wl xi (k+1)=if z=xi then(k:Int) else Yw wl xi k:=by
           by_cases e:z=xi
           ·rw [aC e];exact Y5 HOf.out.nd (e ▸ hz)
           ·rw [ax e];exact Zm hz e
          have hPy:Yw wl yi (k+1)=if z=yi then(k:Int) else Yw wl yi k:=by
           by_cases e:z=yi
           ·rw [aC e];exact Y5 HOf.out.nd (e ▸ hz)
           ·rw [ax e];exact Zm hz e
          have HPx:=ae hPx
          have HPy:=ae hPy
          clear hPx hPy hz hghl
          generalize Yw wl xi k=pI1 at *
          generalize Yw wl yi k=pI2 at *
          by_cases ex:z=xi
          ·have d1:((z:Int) == (xi:Int))=true:=by simp;omega
           rw [aC ex] at HPx
           by_cases ey:z=yi
           ·have d2:((z:Int) == (yi:Int))=true:=by simp;omega
            rw [aC ey] at HPy
            clear ex ey
            go_wp2_with fail
            go_roundw
            case rel=>exact⟨rfl,k+1,by omega,by go_num,by rw [HPx.out],by rw [HPy.out]⟩
            case measure=>simp [iW];omega
           ·have d2:((z:Int) == (yi:Int))=false:=by simp;omega
            rw [ax ey] at HPy
            clear ex ey
            go_wp2_with fail
            go_roundw
            case rel=>exact⟨rfl,k+1,by omega,by go_num,by rw [HPx.out],by rw [HPy.out]⟩
            case measure=>simp [iW];omega
          ·have d1:((z:Int) == (xi:Int))=false:=by simp;omega
           rw [ax ex] at HPx
           by_cases ey:z=yi
           ·have d2:((z:Int) == (yi:Int))=true:=by simp;omega
            rw [aC ey] at HPy
            clear ex ey
            go_wp2_with fail
            go_roundw
            case rel=>exact⟨rfl,k+1,by omega,by go_num,by rw [HPx.out],by rw [HPy.out]⟩
            case measure=>simp [iW];omega
           ·have d2:((z:Int) == (yi:Int))=false:=by simp;omega
            rw [ax ey] at HPy
            clear ex ey
            go_wp2_with fail
            go_roundw
            case rel=>exact⟨rfl,k+1,by omega,by go_num,by rw [HPx.out],by rw [HPy.out]⟩
            case measure=>simp [iW];omega
         ·obtain rfl:k=wl.length:=by omega
          have hix:Yw wl xi wl.length=(wl.idxOf xi:Int):=by rw [Y6 (au _),aC HOf.out.inx]
          have hiy:Yw wl yi wl.length=if yi∈wl then(wl.idxOf yi:Int) else -1:=Y6 (au _)
          rw [hix]
          have Hiy:=ae hiy
          clear hix hiy
          generalize Yw wl yi wl.length=pj at *
          have hA9t:=HA9.out.tail
          have z7:=(Yr hA9t).bx.cell 0
          have z1:=(bF hA9t).cell 1
          simp only [fQ,fP] at z7 z1
          have hgl:=(bF hA9t).lt
          clear hA9t
          go_wp2_with fail
          refine(HWal.out w9 HB9.out xi mx HMx.out).mono ?_
          rintro e w10 ⟨v,rfl,ho,hb10⟩
          obtain⟨bl,hbl⟩:∃bl,bl=dR (kM (ms X)) (128 - d (σ xi)) xi:=⟨_,rfl⟩
          rw [← hbl] at ho
          obtain⟨va2,vc2,rfl⟩:=bP ho
          have hwt:dR K (128 - d (σ xi)) (σ xi)=bl.map σ:=by rw [hbl];exact HT.out.tw.dR _ xi mx HMx.out
          have hbll:bl.length≤600:=by
           have:=HT.out.tw.oz HT.out.ok.lk (128 - d (σ xi)) HMx.out
           rw [← hbl] at this
           omega
          have hblv:∀y∈bl,∃m,lv (ms X) y=some m:=by rw [hbl];exact HT.out.tw.qO _ xi mx HMx.out
          have hA10:=((HA9.out.new (o:=sl 3 1 (.slice va2 bl.length vc2) bl.length (kC bl)) (iD ho (aZ _)) hb10 (fun k hk=>(ho.lt k hk).1)).sO [.slice va2 bl.length vc2] 31).PT (w10.heap.size+1) (by simp) [.int .i64 0] 3
          have hb12:=((ak w10.heap.size w10).alloc (au _) (.cells #[.slice va2 bl.length vc2] 31)).alloc (by simp) (.cells #[.int .i64 0] 3)
          have HB12:=ae (aV HB9.out (aV hb10 hb12))
          have hA12:All w.heap.size w (kK g R Q (.slice (some ⟨gh,0,none⟩) X.length hvc) (iZ S σ (ms X)) S (.slice (some ⟨gs,0,none⟩) S.slots.length caps) fv nv X ++ (YB b16 w10.heap.size (w10.heap.size+1) [] (.slice va2 bl.length vc2) bl 0 ++ Y0 w.heap.size b7 g)) ((w10.alloc (.cells #[.slice va2 bl.length vc2] 31)).alloc (.cells #[.int .i64 0] 3)):=(show All w.heap.size w (YB b16 w10.heap.size (w10.heap.size+1) [] (.slice va2 bl.length vc2) bl 0 ++ (kK g R Q (.slice (some ⟨gh,0,none⟩) X.length hvc) (iZ S σ (ms X)) S (.slice (some ⟨gs,0,none⟩) S.slots.length caps) fv nv X ++ Y0 w.heap.size b7 g)) _ from hA10).perm (List.perm_append_comm_assoc _ _ _)
          have hgx12:=aU (aV hb10 hb12) hghx
          have Hwt:=ae hwt
          have Hblv:=ae hblv
          have Hbl:=ae hbl
          have HA12:=ae hA12
          clear z7 z1 hgl hghx hghy ho hb10 hb12 hA10 hA12 hwt hblv hbl
          go_upto_region 25 with fail
          have hghx:=hgx12
          clear hgx12
          generalize (w10.alloc (.cells #[.slice va2 bl.length vc2] 31)).alloc (.cells #[.int .i64 0] 3)=w12 at *
          generalize w10.heap.size+1=b19 at *
          generalize w10.heap.size=b18 at *
          have hne:=gI w12
          have y0:=fun(x:dS (jc w12))=>(bF (HA12.out.still x.h)).cell 0
          have y2:=fun(x:dS (jc w12))=>(bF (HA12.out.still x.h)).cell 2
          have y7:=fun(x:dS (jc w12))=>(ZI (HA12.out.still x.h)).cell 0
          have yx:=fun(x:dS (jc w12))=>aU x.h hghx
          simp only [fQ,fP] at y0 y2 y7
          refine mW (FWk R (S.hd (σ xi)) w12.heap.size) VWk 12 (by kernel_rfl) (by kernel_rfl) Zt trivial ?_
          simp only [mD,mr,l9,lZ]
          repeat (first
           | (refine RV.aN (by rfl) (by rfl) (fun K hK=>?_);go_big_quiet_step (fail);refine az ?_;refine hK.out _ ?_;clear hK K)
           | (refine RV.aK (by rfl) ?_;simp only [Act.put,dL,dK,dJ]))
          refine RV.dM (by rfl) (by rfl) (fun w=>by go_simp;exact⟨rfl,rfl⟩) (⟨_,0,rfl⟩) (fun X wx hx=>?_) (fun v hv=>?_)
          ·refine(walk_any R (S.hd (σ xi)) wx).mono ?_
           rintro e wy ⟨rfl,hw⟩
           have hbw:Below wx.heap.size wx wy:=by rw [hw];exact((ak _ _).alloc (au _) _).alloc (by simp) _
           refine⟨_,rfl,⟨_,rfl⟩,aV hx.1 hbw,fun m e=>?_⟩
           have em:m=wx.heap.size:=by simp at e;omega
           subst em
           refine⟨hx.1.size,?_,?_⟩
           ·rw [hw];exact(dD.new wx [.pointer (some ⟨R,0,none⟩)] 29).alloc _
           ·have k2:=dD.new (wx.alloc (.cells #[.pointer (some ⟨R,0,none⟩)] 29)) [.int .i64 (S.hd (σ xi))] 3
            rw [show(wx.alloc (.cells #[.pointer (some ⟨R,0,none⟩)] 29)).heap.size=wx.heap.size+1 by simp] at k2
            rw [hw];exact k2
          obtain⟨m25,rfl⟩:=hv
          simp only [Act.put,dL,dK,dJ]
          repeat (first
           | (refine RV.aN (by rfl) (by rfl) (fun K hK=>?_);go_big_quiet_step (fail);refine az ?_;refine hK.out _ ?_;clear hK K)
           | (refine RV.aK (by rfl) ?_;simp only [Act.put,dL,dK,dJ]))
          refine RV.eH ?_
          intro w13 hb13 hF13
          obtain⟨hm1,hBs,hBh⟩:=hF13 m25 rfl
          have hA13:=HA12.out.still hb13
          have hsq:=fun m=>Zl (n:=m) (ZX hA13) (fun W hk=>ZQ hA13 W hk) HT.out.ok.lk nx HNx.out (w:=w13) ⟨au _,fun k cs t fr hk _=>hk⟩ hBs hBh
          simp only [Hwt.out,bM] at hsq
          have HSq:=ae hsq
          have HB13:=ae (aV HB12.out hb13)
          have HA13:=ae hA13
          clear y0 y2 y7 yx hne hb13 hF13 hBs hBh hA13 hsq hghx
          go_wp2_with fail
          refine(wpIn_wide (n:=8)).1 ?_
          refine xE (α:=Ym S) (fun x a=>{ tmps:=(a.tmps.setIfInBounds 237 (.int .i64 (S.hd x.1))).setIfInBounds 20 (.int .i64 (S.hd x.1)),defers:=[] }) (by omega) (gf:=73) (lb:=#[.pointer (some ⟨m25,0,none⟩),.pointer (some ⟨m25+1,0,none⟩)]) rfl (enters_of Tryz.func73 (by kernel_rfl) rfl) (HSq.out 7) Yy.trans (fun W l o o' hl h hc _=>Yy.put l o o' h hc) (fun _=>rfl)
           (fun pre W=>pre.map (·.1) <+: bl.map σ∧All w.heap.size w (kK g R Q (.slice (some ⟨gh,0,none⟩) X.length hvc) (iZ S σ (ms X)) S (.slice (some ⟨gs,0,none⟩) S.slots.length caps) fv nv X ++ (YB b16 b18 b19 (Zx (ms X) (bl.take pre.length)) (.slice va2 bl.length vc2) bl pre.length ++ Y0 w.heap.size b7 g)) W) (IxO S (bl.map σ)) ?own (fun c=>ZR S (bl.map σ) _ c) ⟨List.nil_prefix,HA13.out⟩ ?assign ?body ?done ?stop
          case own =>
           rintro pre W W' row ⟨h1,h2⟩ hg hr
           exact⟨h1,ZZ HA13.out h2 hg hr⟩
          case assign =>
           intro l x W K hK
           gi_wp2
           exact hK
          case stop =>
           intro D c pre W hD hs hx
           exact absurd hs hx
          case body =>
           as_aux_lemma =>
            rintro l' pre ⟨x,hxs⟩ W ⟨hpre,hI⟩ hlt'
            obtain⟨z,hz⟩:∃z,bl[pre.length]? = some z:=⟨_,ay hlt'⟩
            obtain⟨mz,hmz⟩:=Hblv.out z (ah hz)
            obtain⟨gk,e1,q1⟩:=uu (ZV hI) hz
            cases e1
            obtain⟨gh',e2,_,hghz⟩:=jk hI HHl.out z _ (A7 hmz)
            cases e2
            have hzl:=kH ⟨mz,hmz⟩
            rw [aY] at hzl
            obtain⟨gm,capm,rfl⟩:=(lG hI).W.shape hXp
            obtain⟨ck,_,_⟩:=(lG hI).W.FZ hmz
            obtain⟨xz,hxz,exz,_⟩:=qG hmz
            have cd:=(lG hI).W.cell hxz 3 (by omega)
            rw [show(qZ xz)[3]? = some (.string ⟨mz.data.toArray⟩) by rw [← exz];rfl] at cd
            have hge:decide ((bl.length:Int)≤(pre.length:Int))=false:=by simp;omega
            have hlk:(pre.length:Int) < (bl.length:Int):=by omega
            have hge2:decide (bl.length≤pre.length)=false:=by simp;omega
            have hge3:¬(bl.length:Int)≤(pre.length:Int):=by omega
            have hzk:(z:Int) < (X.length:Int):=by omega
            obtain⟨nz,hnz,ekz,_,edz,_⟩:=HT.out.tw.node z mz hmz
            have Hnz:=ae hnz
            have Hmz:=ae hmz
            have Hz:=ae hz
            have HPre:=ae hpre
            have hple:=hpre.length_le
            have HI:=ae hI
            have hne:=gI W
            have y19:=fun(q:dS (jc W))=>(Yx (HI.out.still q.h)).cell 0
            have y18:=fun(q:dS (jc W))=>(Za (HI.out.still q.h)).cell 0
            have y7:=fun(q:dS (jc W))=>(ZI (HI.out.still q.h)).cell 0
            have y2:=fun(q:dS (jc W))=>(bF (HI.out.still q.h)).cell 2
            have yk:=fun(q:dS (jc W))=>aU q.h q1
            have yh:=fun(q:dS (jc W))=>aU q.h hghz
            simp only [fQ,fP] at y19 y18 y7 y2
            have HQ1:=ae q1
            have HCk:=ae ck
            have HCd:=ae cd
            clear hz hmz hnz hpre hI q1 hghz ck cd hlt'
            simp only [dL,dK,dJ]
            refine wpIn_block (wpIn_seq (wpIn_seq ?_))
            by_cases hxe:x=σ z
            case neg =>
             as_aux_lemma =>
              have hbne:(S.hd x != S.hd (σ z))=true:=by
               simp only [bne_iff_ne,ne_eq]
               exact fun e=>hxe (ZW HT.out.ok.lk hxs (by rw [Hnz.out];rfl) e)
              have HNo:=ae (show ¬((pre ++ [(⟨x,hxs⟩:Ym S)]).map (fun y=>y.1) <+: bl.map σ) from fun h=>hxe (by
               rw [ig] at h
               have h1:=h.getElem (i:=pre.length) (by simp)
               simp only [List.getElem_map] at h1
               have h2:bl[pre.length]'(by have:=h.length_le;simp at this;omega)=z:=by
                have h3:=Hz.out
                rw [ai] at h3
                exact h3.2
               rw [h2] at h1
               simpa using h1))
              clear hxe
              refine YK 18 (by kernel_rfl) (by kernel_rfl) (by kernel_rfl) ?_
              simp only [mD,mr,l9,lZ]
              repeat (first | (refine RZ.aN (by rfl) (by rfl) (fun K hK=>?_);go_big_quiet_step (fail);refine az ?_;refine hK.out _ ?_;clear hK K) | (refine RZ.aK (by rfl) ?_;simp only [Act.put,dL,dK,dJ]))
              refine RZ.eH ?_
              intro w14 hb14
              have k6:=Zq (HI.out.still hb14)
              have c6:=k6.cell 0
              simp only [List.getElem?_cons_zero] at c6
              have f6:=k6.free
              have l6:=k6.lt
              have Hb14:=ae hb14
              clear y19 y18 y7 y2 yk yh hne k6 hb14
              gi_wp2_with fail
              exact⟨(pW Hb14.out).trans (rq _ _ _),HNo.out⟩
            case pos =>
             as_aux_lemma =>
              subst hxe
              refine YK 18 (by kernel_rfl) (by kernel_rfl) (by kernel_rfl) ?_
              simp only [mD,mr,l9,lZ]
              repeat (first | (refine RZ.aN (by rfl) (by rfl) (fun K hK=>?_);go_big_quiet_step (fail);refine az ?_;refine hK.out _ ?_;clear hK K) | (refine RZ.aK (by rfl) ?_;simp only [Act.put,dL,dK,dJ]))
              refine RZ.eH ?_
              intro w14 hb14
              have HI14:=ae (HI.out.still hb14)
              have hq14:=aU hb14 HQ1.out
              have hk14:=aU hb14 HCk.out
              have hd14:=aU hb14 HCd.out
              have Hb14:=ae hb14
              have HFin:=ae (fun W' (h:All w.heap.size w (kK g R Q (.slice (some ⟨gh,0,none⟩) X.length hvc) (iZ S σ (ms X)) S (.slice (some ⟨gs,0,none⟩) S.slots.length caps) fv (.slice (some ⟨gm,0,none⟩) X.length capm) X ++ (YB b16 b18 b19 (Zx (ms X) (bl.take pre.length) ++ (if mz.kind=3 then mz.data else [])) (.slice (some ⟨gk,0,none⟩) bl.length vc2) bl (pre.length+1) ++ Y0 w.heap.size b7 g)) W') =>
               (show((pre ++ [(⟨σ z,hxs⟩:Ym S)]).map (·.1) <+: bl.map σ∧All w.heap.size w (kK g R Q (.slice (some ⟨gh,0,none⟩) X.length hvc) (iZ S σ (ms X)) S (.slice (some ⟨gs,0,none⟩) S.slots.length caps) fv (.slice (some ⟨gm,0,none⟩) X.length capm) X ++ (YB b16 b18 b19 (Zx (ms X) (bl.take (pre ++ [(⟨σ z,hxs⟩:Ym S)]).length)) (.slice (some ⟨gk,0,none⟩) bl.length vc2) bl (pre ++ [(⟨σ z,hxs⟩:Ym S)]).length ++ Y0 w.heap.size b7 g)) W') from by
                refine⟨?_,?_⟩
                ·rw [ig]
                 have h1:=List.prefix_iff_eq_take.1 HPre.out
                 rw [bM] at h1
                 rw [h1]
                 have h2:(bl.map σ)[pre.length]? = some (σ z):=by rw [bI,Hz.out];rfl
                 have h3:(bl.map σ).take pre.length ++ [σ z]=(bl.map σ).take (pre.length+1):=by rw [fJ,h2];rfl
                 show(bl.map σ).take pre.length ++ [σ z] <+: _
                 rw [h3]
                 exact List.take_prefix _ _
                ·have h3:bl.take (pre.length+1)=bl.take pre.length ++ [z]:=by rw [fJ,Hz.out];rfl
                 rw [aA,List.length_singleton,h3,ZM (ms X) _ z mz Hmz.out]
                 exact h))
              clear y19 y18 y7 y2 yk yh hne hb14
              have hbd:¬9223372036854775807 < (Zx (ms X) (bl.take pre.length)).length+mz.data.length:=by
               have h1:=Zi HT.out (l:=bl.take pre.length) (fun y hy=>Hblv.out y (kE hy))
               have h2:=YY (S:=S) (fun y n hn=>by have:=(HT.out.ok.nd y n hn).dl;omega) ((bl.take pre.length).map σ)
               rw [h1,bM,fC] at h2
               have h3:=(HT.out.ok.nd _ nz Hnz.out).dl
               rw [edz] at h3
               omega
              gi_wp2_with fail
              have hne:=gI w14
              have y19:=fun(q:dS (jc w14))=>(Yx (HI14.out.still q.h)).cell 0
              have y18:=fun(q:dS (jc w14))=>(Za (HI14.out.still q.h)).cell 0
              have y16:=fun(q:dS (jc w14))=>(YE (HI14.out.still q.h)).cell 0
              have y7:=fun(q:dS (jc w14))=>(ZI (HI14.out.still q.h)).cell 0
              have y1:=fun(q:dS (jc w14))=>(bF (HI14.out.still q.h)).cell 1
              have yq:=fun(q:dS (jc w14))=>(lG (HI14.out.still q.h)).W.ptr
              have yk:=fun(q:dS (jc w14))=>aU q.h hq14
              simp only [fQ,fP] at y19 y18 y16 y7 y1
              by_cases hk3:mz.kind=3
              ·rw [hk3] at hk14
               rw [aC hk3] at HFin
               have yc:=fun(q:dS (jc w14))=>aU q.h hk14
               clear hk3
               refine YK 15 (by kernel_rfl) (by kernel_rfl) (by kernel_rfl) ?_
               simp only [mD,mr,l9,lZ]
               repeat (first | (refine RZ.aN (by rfl) (by rfl) (fun K hK=>?_);go_big_quiet_step (fail);refine az ?_;refine hK.out _ ?_;clear hK K) | (refine RZ.aK (by rfl) ?_;simp only [Act.put,dL,dK,dJ]))
               refine RZ.eH ?_
               intro w15 hb15
               have HI15:=ae (HI14.out.still hb15)
               have Hb15:=ae (aV Hb14.out hb15)
               have hq15:=aU hb15 hq14
               have hd15:=aU hb15 hd14
               clear y19 y18 y16 y7 y1 yq yk yc hne hb15 hq14 hk14 hd14
               gi_wp2_with fail
               have hne:=gI w15
               have y19:=fun(q:dS (jc w15))=>(Yx (HI15.out.still q.h)).cell 0
               have y18:=fun(q:dS (jc w15))=>(Za (HI15.out.still q.h)).cell 0
               have y16:=fun(q:dS (jc w15))=>(YE (HI15.out.still q.h)).cell 0
               have y7:=fun(q:dS (jc w15))=>(ZI (HI15.out.still q.h)).cell 0
               have y1:=fun(q:dS (jc w15))=>(bF (HI15.out.still q.h)).cell 1
               have yq:=fun(q:dS (jc w15))=>(lG (HI15.out.still q.h)).W.ptr
               have yk:=fun(q:dS (jc w15))=>aU q.h hq15
               have yd:=fun(q:dS (jc w15))=>aU q.h hd15
               simp only [fQ,fP] at y19 y18 y16 y7 y1
               refine YK 16 (by kernel_rfl) (by kernel_rfl) (by kernel_rfl) ?_
               simp only [mD,mr,l9,lZ]
               repeat (first | (refine RZ.aN (by rfl) (by rfl) (fun K hK=>?_);go_big_quiet_step (fail);refine az ?_;refine hK.out _ ?_;clear hK K) | (refine RZ.aK (by rfl) ?_;simp only [Act.put,dL,dK,dJ]))
               refine RZ.eH ?_
               intro w16 hb16
               have hI16:=HI15.out.still hb16
               have hA17:All w.heap.size w (kK g R Q (.slice (some ⟨gh,0,none⟩) X.length hvc) (iZ S σ (ms X)) S (.slice (some ⟨gs,0,none⟩) S.slots.length caps) fv (.slice (some ⟨gm,0,none⟩) X.length capm) X ++ (YB b16 b18 b19 (Zx (ms X) (bl.take pre.length) ++ mz.data) (.slice (some ⟨gk,0,none⟩) bl.length vc2) bl pre.length ++ Y0 w.heap.size b7 g)) (w16.setCell ⟨b16,0,none⟩ (.string (⟨(Zx (ms X) (bl.take pre.length)).toArray⟩ ++ ⟨mz.data.toArray⟩))):=by
                rw [Zy];exact ZY hI16 _
               have c16:=(YE hI16).cell 0
               have f16:=(YE hI16).free
               have l16:=(YE hI16).lt
               have c19:=(Yx hA17).cell 0
               have f19:=(Yx hA17).free
               have l19:=(Yx hA17).lt
               simp only [List.getElem?_cons_zero] at c16 c19
               have HF:=ae (HFin.out _ (ZH hA17))
               have Hb16:=ae (aV Hb15.out hb16)
               clear y19 y18 y16 y7 y1 yq yk yd hne hb16 hq15 hd15 hI16 hA17
               gi_wp2_with fail
               exact⟨(pW Hb16.out).trans ((rq _ _ _).trans (rq _ _ _)),(Yy.below Hb16.out).trans ((YV ⟨b16,0,none⟩ _ (fun _=>.inl rfl)).trans (YV ⟨b19,0,none⟩ _ (fun _=>.inr rfl))),HF.out⟩
              ·have hk3':(mz.kind == 3)=false:=by simpa using hk3
               rw [ax hk3,aT] at HFin
               have yc:=fun(q:dS (jc w14))=>aU q.h hk14
               clear hk3
               refine YK 15 (by kernel_rfl) (by kernel_rfl) (by kernel_rfl) ?_
               simp only [mD,mr,l9,lZ]
               repeat (first | (refine RZ.aN (by rfl) (by rfl) (fun K hK=>?_);go_big_quiet_step (fail);refine az ?_;refine hK.out _ ?_;clear hK K) | (refine RZ.aK (by rfl) ?_;simp only [Act.put,dL,dK,dJ]))
               refine RZ.eH ?_
               intro w15 hb15
               have hI15:=HI14.out.still hb15
               have Hb15:=ae (aV Hb14.out hb15)
               have c19:=(Yx hI15).cell 0
               have f19:=(Yx hI15).free
               have l19:=(Yx hI15).lt
               simp only [List.getElem?_cons_zero] at c19
               have HF:=ae (HFin.out _ (ZH hI15))
               clear y19 y18 y16 y7 y1 yq yk yc hne hb15 hq14 hk14 hd14 hI15
               gi_wp2_with fail
               exact⟨(pW Hb15.out).trans (rq _ _ _),(Yy.below Hb15.out).trans (YV ⟨b19,0,none⟩ _ (fun _=>.inr rfl)),HF.out⟩
          case done =>
           as_aux_lemma =>
            rintro D ys W hD hys ⟨_,hI⟩ hK
            have hyl2:ys.length=bl.length:=by have:=bW List.length hys;rw [bM,bM] at this;exact this
            rw [hyl2,dE] at hI
            have hDw:w.heap.size≤D:=by have:=HA13.out.below.size;omega
            have HI:=ae hI
            have HK:=ae hK
            have hgz:=jk hI HHl.out xi _ (A7 HMx.out)
            obtain⟨gh',e2,_,hghx⟩:=hgz
            cases e2
            have HCt:=ae (fun wx (hb:Below W.heap.size W wx)=>(show Calls Tryz.prog 30 #[.pointer (some ⟨R,0,none⟩),.int .i64 (S.hd (σ xi))] wx fun e w'=>e=.returned (.string ⟨(Zx (ms X) bl).toArray⟩)∧Below wx.heap.size wx w' from by
             have:=YZ (jF (HI.out.still hb)) HT.out.ok.lk (σ xi) nx HNx.out (fun x n hn=>by have:=(HT.out.ok.nd x n hn).dl;omega) (by rw [Hwt.out,bM];omega)
             rw [Hwt.out,Zi HT.out Hblv.out] at this
             exact this))
            clear hys hI hK HSq hyl2
            go_upto_region 32 with fail
            have hne:=gI W
            have y0:=fun(q:dS (jc W))=>(bF (HI.out.still q.h)).cell 0
            have y2:=fun(q:dS (jc W))=>(bF (HI.out.still q.h)).cell 2
            have y19:=fun(q:dS (jc W))=>(Yx (HI.out.still q.h)).cell 0
            have y18:=fun(q:dS (jc W))=>(Za (HI.out.still q.h)).cell 0
            have y16:=fun(q:dS (jc W))=>(YE (HI.out.still q.h)).cell 0
            have y7:=fun(q:dS (jc W))=>(ZI (HI.out.still q.h)).cell 0
            have yx:=fun(q:dS (jc W))=>aU q.h hghx
            simp only [fQ,fP] at y0 y2 y19 y18 y16 y7
            generalize (⟨(Zx (ms X) bl).toArray⟩:ByteArray)=cst at *
            refine mW (fun _ _=>True) (fun _ v=>v=.string cst) 20 (by kernel_rfl) (by kernel_rfl) (fun _ _ _ _ _=>trivial) trivial ?_
            simp only [mD,mr,l9,lZ]
            repeat (first
             | (refine RV.aN (by rfl) (by rfl) (fun K hK=>?_);go_big_quiet_step (fail);refine az ?_;refine hK.out _ ?_;clear hK K)
             | (refine RV.aK (by rfl) ?_;simp only [Act.put,dL,dK,dJ]))
            refine RV.dM (by rfl) (by rfl) (fun w=>by go_simp;exact⟨rfl,rfl⟩) (⟨_,rfl⟩) (fun X wx hx=>?_) (fun v hv=>?_)
            ·refine(HCt.out _ hx.1).mono ?_
             rintro e wy ⟨rfl,hb⟩
             exact⟨_,rfl,rfl,aV hx.1 hb,trivial⟩
            obtain rfl:v=.string cst:=hv
            simp only [Act.put,dL,dK,dJ]
            repeat (first
             | (refine RV.aN (by rfl) (by rfl) (fun K hK=>?_);go_big_quiet_step (fail);refine az ?_;refine hK.out _ ?_;clear hK K)
             | (refine RV.aK (by rfl) ?_;simp only [Act.put,dL,dK,dJ]))
            refine RV.eH ?_
            intro w20 hb20 _
            have HA20:=ae (HI.out.still hb20)
            have HK20:=ae ((hb20.block D (zA HK.out)).trans HK.out)
            have k6:=Zq HA20.out
            have c6:=k6.cell 0
            simp only [List.getElem?_cons_zero] at c6
            have f6:=k6.free
            have l6:=k6.lt
            clear y0 y2 y19 y18 y16 y7 yx hne hb20 hghx k6
            have hcc:=Hcc.out
            by_cases hin:yi∈wl
            ·have h1:=HOf.out.yes hin
             rw [hcc] at h1
             obtain⟨rfl,rfl⟩:c1=Yv (wl.idxOf xi) (wl.idxOf yi)∧c2=0:=by simpa using h1
             have h2:=Hiy.out
             rw [aC hin] at h2
             subst h2
             clear h1 hcc Hcc Hiy
             generalize wl.idxOf xi=pa at *
             generalize wl.idxOf yi=pb at *
             have hnn:¬(pb:Int) < 0:=by omega
             rcases Nat.lt_trichotomy pa pb with h | h | h
             ·have e1:Yv pa pb=-1:=by unfold Yv;rw [aC h]
              have e2:(pa:Int) < (pb:Int):=by omega
              have e3:¬(pb:Int) < (pa:Int):=by omega
              rw [e1]
              clear h e1
              obtain⟨r0,r1,r2⟩:=YH (D:=D) (Zq HA20.out) HA20.out.below (au _) (by omega) HK20.out true
              have R0:=ae r0
              have R1:=ae r1
              have R2:=ae r2
              clear r0 r1 r2
              go_wp2_with fail
              refine DL R0.out ?_
              refine⟨.bool true,?_,rfl,R2.out⟩
              simp [results,Tryz.f9,go_sem,R1.out]
             ·have e1:Yv pa pb=0:=by unfold Yv;rw [ax (by omega),ax (by omega)]
              have e2:¬(pa:Int) < (pb:Int):=by omega
              have e3:¬(pb:Int) < (pa:Int):=by omega
              rw [e1]
              clear h e1
              obtain⟨r0,r1,r2⟩:=YH (D:=D) (Zq HA20.out) HA20.out.below (au _) (by omega) HK20.out true
              have R0:=ae r0
              have R1:=ae r1
              have R2:=ae r2
              clear r0 r1 r2
              go_wp2_with fail
              refine DL R0.out ?_
              refine⟨.bool true,?_,rfl,R2.out⟩
              simp [results,Tryz.f9,go_sem,R1.out]
             ·have e1:Yv pa pb=1:=by unfold Yv;rw [ax (by omega),aC h]
              have e2:¬(pa:Int) < (pb:Int):=by omega
              have e3:(pb:Int) < (pa:Int):=by omega
              rw [e1]
              clear h e1
              obtain⟨r0,r1,r2⟩:=YH (D:=D) (Zq HA20.out) HA20.out.below (au _) (by omega) HK20.out true
              have R0:=ae r0
              have R1:=ae r1
              have R2:=ae r2
              clear r0 r1 r2
              go_wp2_with fail
              refine DL R0.out ?_
              refine⟨.bool true,?_,rfl,R2.out⟩
              simp [results,Tryz.f9,go_sem,R1.out]
            ·have h1:=HOf.out.no hin
             rw [hcc] at h1
             obtain⟨rfl,rfl⟩:c1=0∧c2=6:=by simpa using h1
             have h2:=Hiy.out
             rw [ax hin] at h2
             subst h2
             clear h1 hcc Hcc Hiy
             obtain⟨r0,r1,r2⟩:=YH (D:=D) (Zq HA20.out) HA20.out.below (au _) (by omega) HK20.out true
             have R0:=ae r0
             have R1:=ae r1
             have R2:=ae r2
             clear r0 r1 r2
             go_wp2_with fail
             refine DL R0.out ?_
             refine⟨.bool true,?_,rfl,R2.out⟩
             simp [results,Tryz.f9,go_sem,R1.out]
end Go.Proofs.YtfelmdkeaacfeaaGreatDoor.W
end
