/- Texts joined: Mins MinN Mcop. -/
import Derived.Test.YtfelmdkeaacfeaaGreatDoorTB1
import Derived.Test.YtfelmdkeaacfeaaGreatDoorTB15
import Derived.Deep.CutBlock
import Derived.Deep.DeepCutAuto
import Derived.Test.YtfelmdkeaacfeaaGreatDoorTB26
set_option maxRecDepth 100000
set_option maxHeartbeats 40000000
set_option linter.unusedVariables false
set_option linter.unusedSimpArgs false
section
namespace Go.Proofs.YtfelmdkeaacfeaaGreatDoor.W
open Go.RowKit
theorem VY:ET Tryz.prog 89 144 11 104:=ET.mk' (z:=.agg #[.int .i64 0,.int .i64 0,.int .i64 0,.int .i64 0,.int .i64 0,.int .i64 0,.string ⟨#[]⟩,.string ⟨#[]⟩,.bool false,.int .i64 0,.int .i64 0]) Tryz.underlying89 (by kernel_rfl) rfl (by omega)
abbrev V8 (v:Value) (l:List Rc):Ob:=sl 144 11 v l.length (rows encR l)
def Vq (Q g cap:Nat)(X:List MX)(w:World)(p c:Nat)(o:Option Nat)(mc:MN)(e:Ending)(w':World):Prop :=
 ∃X' v rs,JX (ms X) p c o mc (ms X') rs∧e=.returned (.tuple #[v,.int .i64 0])∧w'.ownsRow w.heap.size 144 11 v rs.length (rows encR rs) ∧
  fU Q (.slice (some ⟨g,0,none⟩) X.length cap) X w (.slice (some ⟨g,0,none⟩) X'.length cap) X' w'
theorem own_base {w:World}{B e size n:Nat}{v:Value}{xs:List Value}(h:Own w e size v n xs)(hb:∀k,v.ownBlock=some k→B≤k):w.ownsRow B e size v n xs:=by
 obtain⟨h1,h2⟩:=h
 refine⟨h1,h2.imp id ?_⟩
 rintro⟨g,cap,cur,rfl,_,rest⟩
 exact⟨g,cap,cur,rfl,hb g rfl,rest⟩
def VA (l:List Nat)(c:Nat)(o:Option Nat)(j:Nat):Prop:=(o=none∧j=l.length)∨(∃b,o=some b∧b≠c∧l[j]? = some b)
theorem VA.le {l:List Nat}{c:Nat}{o:Option Nat}{j:Nat}(h:VA l c o j):j≤l.length:=by
 rcases h with ⟨_,e⟩ | ⟨b,_,_,e⟩
 ·omega
 ·have:=(ai.1 e).1;omega
def VP (Q g cap:Nat)(X:List MX)(w:World)(p c:Nat)(o o':Option Nat)(mc:MN)(s:Value)(wx:World):Prop :=
 ∃(wb:World) (X1:List MX) (v:Value) (rs:List Rc) (mp1 mc1:MN),fU Q (.slice (some ⟨g,0,none⟩) X.length cap) X w (.slice (some ⟨g,0,none⟩) X1.length cap) X1 wb∧All wb.heap.size wb [V8 v rs] wx∧rs.length≤1∧s=v∧X1.length=X.length ∧
  lv (ms X1) p=some mp1∧lv (ms X1) c=some mc1∧mp1.kids.Nodup∧mp1.kids.length≤100000∧(∀b:Nat,o'=some b→b≠c∧∃(j:Nat) (mb:MN),lv (ms X1) b=some mb∧mb.par=some p∧mp1.kids[j]? = some b) ∧
  (∀j:Nat,VA mp1.kids c o' j→JX (ms X) p c o mc (oU (ms X1) p j c) (rs ++ [Ti p c (pI (pv mp1.kids j)) (pI mp1.kids[j]?) j]))
theorem Ry {Q g cap:Nat}{X:List MX}{D:Nat→Nat}{w:World}(h:jC Q (.slice (some ⟨g,0,none⟩) X.length cap) X w)(hW:MW (ms X) D){p c:Nat}{mc mp:MN}(hc:lv (ms X) c=some mc)(hp:lv (ms X) p=some mp)(hpc:p≠c)(o:Option Nat)
  (ho:∀b,o=some b→∃mb,lv (ms X) b=some mb∧mb.par=some p)(hch:zt (ms X) D p c mp mc=true)(hdep:D p+hgt (kM (ms X)) (128 - D c) c≤128) :
  Calls Tryz.prog 43 #[.pointer (some ⟨Q,0,none⟩),.int .i64 (p:Int),.int .i64 (c:Int),.int .i64 (pI o)] w (Vq Q g cap X w p c o mc):=by
 have hf:=hW.few
 rw [aY] at hf
 have lp:=lU hp
 have lc:=lU hc
 have hklp:=hW.Lj hp
 have HCh:=ae (uj h.W hW p c hp hc)
 rw [hch] at HCh
 have HDp:=ae (DW h.W hW p hp)
 have HHt:=ae (Bv hW (128 - D c) c mc hc rfl w h.W)
 have hhl:=ql (kM (ms X)) (128 - D c) c
 have hdl:=hW.low p mp hp
 generalize hgt (kM (ms X)) (128 - D c) c=hz at *
 generalize hdz:D p=dz at *
 have dd:decide ((128:Int) < (dz:Int)+(hz:Int))=false:=by simp;omega
 have c0:=h.W.ptr
 obtain⟨_,c4,_⟩:=h.W.FZ hc
 have HB4:=ae (fun b hb=>(show ∃mb,lv (ms X) b=some mb∧mb.par=some p∧b < X.length∧w.cell? ⟨g,b*7+4,none⟩=some (.int .i64 (p:Int)) from by
  obtain⟨mb,h1,h2⟩:=ho b hb
  have:=(h.W.FZ h1).2.1
  rw [h2] at this
  exact⟨mb,h1,h2,lU h1,this⟩))
 obtain⟨_,_,ka0,kc0,p5,ho0⟩:=h.W.FZ hp
 have HI0:=ae (fun(hcp:mc.par=some p) i0 (hi0:mp.kids[i0]? = some c) wx (hb:Below w.heap.size w wx)=>DU (h.W.below hb) hW hc hcp hp hi0)
 have HN0:=ae (fun i wx (hb:Below w.heap.size w wx)=>QR kc0 wx (bH ho0 hb) (by omega) i)
 have HCut:=ae (fun q mq i0 (hcp:mc.par=some q) (hq:lv (ms X) q=some mq) (hi:mq.kids[i0]? = some c) wx (hb:Below w.heap.size w wx)=>Jk (h.below hb) hW hc hcp hq hi)
 have HH:=ae h
 have HW:=ae hW
 have Hmc:=ae hc
 have Hmp:=ae hp
 have hQl:=h.W.blk.lt
 have hgl:=CU h
 clear h ho ho0 hc hp hch hW
 go_enter Tryz.func43,Tryz.ntmps43
 go_upto_region 1 with fail
 go_cut [33] (fun s wx=>s=.bool false∧wx=w)
 case first =>
  cases o with
  | none =>
   rw [show pI none=-1 from rfl]
   go_wp2_with fail
   refine HCh.out.mono ?_
   rintro e wz ⟨rfl,hw⟩
   subst wz
   go_wp2_with fail
   go_meet
   exact⟨rfl,rfl⟩
  | some b =>
   obtain⟨mb,_,_,lb,b4⟩:=HB4.out b rfl
   rw [show pI (some b)=(b:Int) from rfl]
   go_wp2_with fail
   refine HCh.out.mono ?_
   rintro e wz ⟨rfl,hw⟩
   subst wz
   go_wp2_with fail
   go_meet
   exact⟨rfl,rfl⟩
 case rest =>
  obtain⟨rfl,hw⟩:=hcut
  subst wc
  go_wp2_with fail
  refine HDp.out.mono ?_
  rintro e wz ⟨rfl,hw⟩
  subst wz
  go_wp2_with fail
  refine HHt.out.mono ?_
  rintro e wz ⟨rfl,hw⟩
  subst wz
  go_upto_if 44 with fail
  go_cut [3] (fun s wx=>∃o',s=.int .i64 (pI o')∧Below w.heap.size w wx∧((o≠some c∧o'=o)∨(o=some c∧∃i0,mp.kids[i0]? = some c∧o'=mp.kids[i0+1]?)))
  case first =>
   cases o with
   | none =>
    have ebc:((-1:Int) == (c:Int))=false:=by simp <;> omega
    rw [show pI none=-1 from rfl]
    go_wp2_with fail
    go_meet
    exact⟨none,rfl,ak _ _,.inl ⟨by simp,by first | rfl | trivial⟩⟩
   | some b =>
    rw [show pI (some b)=(b:Int) from rfl]
    by_cases hbc:b=c
    ·subst hbc
     obtain⟨mb,hb,hbp,lb,b4⟩:=HB4.out b rfl
     have hcp:mc.par=some p:=by have:=hb.symm.trans Hmc.out;cases this;exact hbp
     obtain⟨mp',hp',hcm,_⟩:=HW.out.par b mc p Hmc.out hcp
     have e2:=hp'.symm.trans Hmp.out
     cases e2
     obtain⟨i0,hi0⟩:=aI.1 hcm
     have hil0:=(ai.1 hi0).1
     obtain⟨zz,hzz⟩:∃z,z=pI mp.kids[i0+1]?:=⟨_,rfl⟩
     have HNx:=ae (fun wx (hb:Below w.heap.size w wx)=>HN0.out (i0+1) wx hb)
     rw [← hzz,Int.natCast_add] at HNx
     have HZZ:=ae hzz
     have HI:=ae (HI0.out hcp i0 hi0)
     have Hi0:=ae hi0
     have x0:∀x:dS (jc w),x.w.cell? ⟨Q,0,none⟩=some (.slice (some ⟨g,0,none⟩) X.length cap):=fun x=>aU x.h c0
     have x5:∀x:dS (jc w),x.w.cell? ⟨g,p*7+5,none⟩=some (.slice ka0 mp.kids.length kc0):=fun x=>aU x.h p5
     have hne:=gI w
     have hwr0:IntKind.i64.wrap ((i0:Int)+1)=(i0:Int)+1:=XR _ (by omega) (by omega)
     clear hzz hi0 hcp hp' hcm hb hbp
     go_upto_region 6 with fail
     refine oP (fun k=>if k=0 then .int .i64 (i0:Int) else .int .i64 zz) 13 (by kernel_rfl) (by kernel_rfl) ?_
     simp only [mD,mr,l9,lZ]
     repeat (first
      | (refine aN (by rfl) (by rfl) (fun K hK=>?_);go_big_quiet_step (fail);refine az ?_;refine hK.out _ ?_;clear hK K)
      | (refine aK (by rfl) ?_;simp only [Act.put,dL,dK,dJ]))
     refine dM (.int .i64 (i0:Int)) rfl (by rfl) (by rfl) (fun w=>by go_simp;exact⟨rfl,rfl⟩) ?_ ?_
     ·intro Y wx hx
      refine(HI.out _ hx).mono ?_
      rintro e wz ⟨rfl,hw⟩
      subst wz
      exact⟨rfl,hx⟩
     simp only [Act.put,dL,dK,dJ]
     repeat (first
      | (refine aN (by rfl) (by rfl) (fun K hK=>?_);go_big_quiet_step (fail);refine az ?_;refine hK.out _ ?_;clear hK K)
      | (refine aK (by rfl) ?_;simp only [Act.put,dL,dK,dJ]))
     refine dM (.int .i64 zz) rfl (by rfl) (by rfl) (fun w=>by go_simp;exact⟨rfl,rfl⟩) ?_ ?_
     ·intro Y wx hx
      refine(HNx.out _ hx).mono ?_
      rintro e wz ⟨rfl,hw⟩
      subst wz
      exact⟨rfl,hx⟩
     simp only [Act.put,dL,dK,dJ]
     repeat (first
      | (refine aN (by rfl) (by rfl) (fun K hK=>?_);go_big_quiet_step (fail);refine az ?_;refine hK.out _ ?_;clear hK K)
      | (refine aK (by rfl) ?_;simp only [Act.put,dL,dK,dJ]))
     refine eH ?_
     intro w0 h0
     clear x0 x5 hne
     go_wp2_with fail
     go_meet
     exact⟨_,by rw [HZZ.out],h0,.inr ⟨by first | rfl | trivial,i0,Hi0.out,rfl⟩⟩
    ·have ebc:((b:Int) == (c:Int))=false:=by simp;omega
     go_wp2_with fail
     go_meet
     exact⟨some b,rfl,ak _ _,.inl ⟨by simpa using hbc,by first | rfl | trivial⟩⟩
  case rest =>
   obtain⟨o',rfl,hb1,ho'⟩:=hcut
   have HO':=ae ho'
   have d0:=aU hb1 c0
   have d4:=aU hb1 c4
   have HC1:=ae hb1
   have HQ1:=ae c0
   clear c0 c4 p5 ho' hb1
   go_upto_if 66 with fail
   go_cut [10] (fun s wx=>VP Q g cap X w p c o o' mc s wx)
   case first =>
    cases hpar:mc.par with
    | none =>
     rw [show pI none=-1 from rfl]
     have HPar:=ae hpar
     clear hpar
     go_wp2_with fail
     go_meet
     have hoo:o≠some c∧o'=o:=by
      rcases HO'.out with h1 | ⟨h1,_⟩
      ·exact h1
      ·obtain⟨mb,hb,hbp,_⟩:=HB4.out c h1
       rw [Hmc.out] at hb
       cases hb
       rw [HPar.out] at hbp
       cases hbp
     refine⟨wc,X,.slice none 0 0,[],mp,mc,fU.refl HH.out HC1.out,(All.start wc).nil _ _,by simp,rfl,rfl,Hmp.out,Hmc.out,HW.out.nd p mp Hmp.out,hklp,?_,?_⟩
     ·intro b hb
      rw [hoo.2] at hb
      obtain⟨mb,h1,h2,_⟩:=HB4.out b hb
      obtain⟨mp',h3,h4,_⟩:=HW.out.par b mb p h1 h2
      rw [Hmp.out] at h3
      cases h3
      obtain⟨j,hj⟩:=aI.1 h4
      exact⟨fun e=>hoo.1 (e ▸ hb),j,mb,h1,h2,hj⟩
     ·intro j hj
      have:=JX.det (M:=ms X) (p:=p) (c:=c) (o:=o) (mc:=mc) mp j HPar.out Hmp.out (by rw [hoo.2] at hj;exact hj)
      exact this
    | some q =>
     obtain⟨mq,hq,hcq,_⟩:=HW.out.par c mc q Hmc.out hpar
     obtain⟨i0,hi0⟩:=aI.1 hcq
     have HCu:=ae (HCut.out q mq i0 hpar hq hi0)
     have HPar:=ae hpar
     have HQq:=ae hq
     have HIq:=ae hi0
     rw [show pI (some q)=(q:Int) from rfl]
     clear hpar hq hcq hi0
     go_wp2_with fail
     refine(HCu.out _ HC1.out).mono ?_
     rintro e wb ⟨X1,hms,rfl,hM⟩
     have HM:=ae hM
     have HMs:=ae hms
     have hA0:=(All.start wb).nil 144 11
     have HA0:=ae hA0
     clear hA0 hM hms
     simp only [recC,dA]
     go_wp2_with (at_builtin;refine lK VY [] (HA0.out.alloc _) (jg (n:=1) (size:=11) (dD.new wb [.int .i64 2,.int .i64 (q:Int),.int .i64 (c:Int),.int .i64 (pI (pv mq.kids i0)),.int .i64 (pI mq.kids[i0+1]?),.int .i64 (i0:Int),.string ⟨#[]⟩,.string ⟨#[]⟩,.bool false,.int .i64 0,.int .i64 0] 144) rfl (by omega)) (yY _ _ _ _ _ _ _ _ _) (by omega) (by omega) rfl _ _ rfl rfl rfl ?_;intro v1 w1 hA1;have HA1:=ae hA1;clear hA1)
     go_wp2_with fail
     go_meet
     have hX1:X1.length=X.length:=by
      have:=bW List.length HMs.out
      rw [aY] at this
      unfold uH at this
      rw [gQ,aY] at this
      exact this
     have hp1:=uq (p:=q) (j:=i0) (c:=c) Hmp.out
     have hc1:=uq (p:=q) (j:=i0) (c:=c) Hmc.out
     rw [← HMs.out] at hp1 hc1
     have hkk:p=q→mp=mq:=fun e=>by
      subst e
      have:=HQq.out.symm.trans Hmp.out
      cases this;rfl
     refine⟨wb,X1,_,[Ub q c (pI (pv mq.kids i0)) (pI mq.kids[i0+1]?) i0],_,_,(fU.refl HH.out HC1.out).trans HM.out,HA1.out,by simp,rfl,hX1,hp1,hc1,?_,?_,?_,?_⟩
     ·have:=HW.out.nd p mp Hmp.out
      simp only []
      split
      ·exact this.sublist (lT _ _)
      ·exact this
     ·simp only []
      split
      ·have:=(lT mp.kids i0).length_le;omega
      ·exact hklp
     ·intro b hb
      have hb':b≠c∧b∈(if p=q then mp.kids.eraseIdx i0 else mp.kids)∧∃mb,lv (ms X) b=some mb∧mb.par=some p:=by
       rcases HO'.out with ⟨h1,h2⟩ | ⟨h1,t0,ht0,h2⟩
       ·rw [h2] at hb
        obtain⟨mb,k1,k2,_⟩:=HB4.out b hb
        obtain⟨mp',k3,k4,_⟩:=HW.out.par b mb p k1 k2
        rw [Hmp.out] at k3
        cases k3
        have hne:b≠c:=fun e=>h1 (e ▸ hb)
        refine⟨hne,?_,mb,k1,k2⟩
        split
        ·rename_i e
         obtain⟨t,ht⟩:=aI.1 k4
         refine nJ.2 ⟨t,fun e2=>?_,ht⟩
         rw [hkk e,e2,HIq.out] at ht
         exact hne (cO ht).symm
        ·exact k4
       ·obtain⟨mb,k1,k2,_⟩:=HB4.out c h1
        rw [Hmc.out] at k1
        cases k1
        rw [HPar.out] at k2
        cases k2
        have e:=hkk rfl
        subst e
        have hi2:t0=i0:=(iK (by have:=(ai.1 ht0).1;omega) (HW.out.nd _ _ Hmp.out)).1 (ht0.trans HIq.out.symm)
        subst hi2
        rw [h2] at hb
        have hmem:=ah hb
        obtain⟨mb,k3,k4⟩:=HW.out.kid _ mp b Hmp.out hmem
        refine⟨fun e=>?_,?_,mb,k3,k4⟩
        ·subst e
         have:=(iK (by have:=(ai.1 hb).1;omega) (HW.out.nd _ _ Hmp.out)).1 (hb.trans ht0.symm)
         omega
        ·rw [aC rfl]
         exact nJ.2 ⟨t0+1,by omega,hb⟩
      obtain⟨k1,k2,mb,k3,k4⟩:=hb'
      obtain⟨j,hj⟩:=aI.1 k2
      have hb1:=uq (p:=q) (j:=i0) (c:=c) k3
      rw [← HMs.out] at hb1
      exact⟨k1,j,_,hb1,by simp only [k1,iJ];exact k4,hj⟩
     ·intro j hj
      have hp1':=hp1
      rw [HMs.out] at hp1'
      rw [HMs.out]
      refine JX.sF (M:=ms X) (p:=p) (c:=c) (o:=o) (mc:=mc) q i0 j mq _ o' HPar.out HQq.out HIq.out hp1' ?_ hj
      rcases HO'.out with ⟨h1,h2⟩ | ⟨h1,t0,ht0,h2⟩
      ·rw [ax h1,h2]
      ·rw [aC h1,h2]
       obtain⟨mb,k1,k2,_⟩:=HB4.out c h1
       rw [Hmc.out] at k1
       cases k1
       rw [HPar.out] at k2
       cases k2
       have e:=hkk rfl
       subst e
       have hi2:t0=i0:=(iK (by have:=(ai.1 ht0).1;omega) (HW.out.nd _ _ Hmp.out)).1 (ht0.trans HIq.out.symm)
       rw [hi2]
   case rest =>
    obtain⟨wb,X1,v,rs,mp1,mc1,hM,hA,hrs,rfl,hX1,hp1,hc1,hnd,hkl,hb1,hfin⟩:=hcut
    have hbl:=hA.below
    have hMd:=hM.at_
    obtain⟨_,_,ka,kc,f5,hok⟩:=hMd.W.FZ hp1
    have f0:=hMd.W.ptr
    have e0:=aU hbl f0
    have e5:=aU hbl f5
    have lp1:p < X1.length:=by omega
    have HIx:=ae (fun b (hb:o'=some b)=>(show ∃j:Nat,b≠c∧mp1.kids[j]? = some b∧Calls Tryz.prog 51 #[.pointer (some ⟨Q,0,none⟩),.int .i64 (b:Int)] wc (fun e w'=>e=.returned (.int .i64 (j:Int))∧w'=wc) from by
     obtain⟨k1,j,mb,k2,k3,k4⟩:=hb1 b hb
     exact⟨j,k1,k4,FV (hMd.below hbl).W (by omega) hnd hkl k2 k3 hp1 k4⟩))
    have HFin:=ae hfin
    have HM:=ae hM
    have HA:=ae hA
    have uY:=ae hok
    have HP1:=ae hp1
    have HC1:=ae hc1
    clear hfin hM hA hok hMd hb1 d0 d4 hp1 hc1
    go_upto_if 84 with fail
    go_cut [12] (fun s wx=>∃j:Nat,s=.int .i64 (j:Int)∧wx=wc∧VA mp1.kids c o' j)
    case first =>
     cases o' with
     | none =>
      rw [show pI none=-1 from rfl]
      go_wp2_with fail
      go_meet
      exact⟨_,rfl,rfl,.inl ⟨rfl,rfl⟩⟩
     | some b =>
      obtain⟨j,hbc,hj,HI⟩:=HIx.out b rfl
      have HI:=ae HI
      rw [show pI (some b)=(b:Int) from rfl]
      have Hj:=ae hj
      clear hj
      go_wp2_with fail
      refine HI.out.mono ?_
      rintro e wz ⟨rfl,hw⟩
      subst wz
      go_wp2_with fail
      go_meet
      exact⟨j,rfl,rfl,.inr ⟨b,rfl,hbc,Hj.out⟩⟩
    case rest =>
     obtain⟨j,rfl,hw,hpl⟩:=hcut
     subst hw
     have hjl:=hpl.le
     obtain⟨z1,hz1⟩:∃z,z=pI (pv mp1.kids j):=⟨_,rfl⟩
     obtain⟨z2,hz2⟩:∃z,z=pI mp1.kids[j]?:=⟨_,rfl⟩
     have HA1:=ae (TG kc wc (bH uY.out hbl) (by omega) j)
     have HA2:=ae (QR kc wc (bH uY.out hbl) (by omega) j)
     rw [← hz1] at HA1
     rw [← hz2] at HA2
     have HFj:=ae (HFin.out j hpl)
     rw [← hz1,← hz2] at HFj
     clear hz1 hz2 hpl HFin HIx
     go_wp2_with fail
     refine HA1.out.mono ?_
     rintro e wz ⟨rfl,hw⟩
     subst wz
     go_wp2_with fail
     refine HA2.out.mono ?_
     rintro e wz ⟨rfl,hw⟩
     subst wz
     go_wp2_with (at_builtin;refine lK VY [] (HA.out.alloc _) (jg (n:=1) (size:=11) (dD.new wc [.int .i64 1,.int .i64 (p:Int),.int .i64 (c:Int),.int .i64 z1,.int .i64 z2,.int .i64 (j:Int),.string ⟨#[]⟩,.string ⟨#[]⟩,.bool false,.int .i64 0,.int .i64 0] 144) rfl (by omega)) (yY _ _ _ _ _ _ _ _ _) (by omega) (by omega) rfl _ _ rfl rfl rfl ?_;intro v3 w3 hA3;simp only [List.nil_append] at hA3;have HA3:=ae hA3;clear hA3)
     go_upto_region 15 with fail
     have hQb:Q < wb.heap.size:=(HM.out.at_.W.blk).lt
     have hgb:=CU HM.out.at_
     have hb3:Below wb.heap.size wb w3:=HA3.out.below
     obtain⟨xp1,hxp1,hxpm,_⟩:=qG HP1.out
     obtain⟨xc1,hxc1,hxcm,_⟩:=qG HC1.out
     subst hxpm
     have HXP:=ae hxp1
     have HXC:=ae hxc1
     clear hxp1 hxc1
     have HQx:=ae (fun wx (hb:Below wb.heap.size wb wx)=>aU hb f0)
     have HF5:=ae (fun wx (hb:Below wb.heap.size wb wx)=>aU hb f5)
     have HFz:=ae (fun wx (hb:Below wb.heap.size wb wx)=>(HM.out.at_.below hb).W.Ou)
     have hQg:Q≠g:=fun e=>by
      have h1:=HM.out.at_.W.blk
      obtain⟨cg,hg⟩:=dF HM.out.at_.W.row (b:=g) rfl
      rw [e] at h1
      exact dw h1 hg (by decide) rfl
     have hgQ:g≠Q:=fun e=>hQg e.symm
     have e0':=HQx.out _ hb3
     have hQW:=aO hQb hb3.size
     have hgW:=aO hgb hb3.size
     clear e0 e5
     have e0:=e0'
     have ea:∀o,(w3.alloc o).cell? ⟨Q,0,none⟩=some (.slice (some ⟨g,0,none⟩) X1.length cap):=fun o=>(fF _ _ _ hQW).trans e0
     have ea2:∀o o2,((w3.alloc o).alloc o2).cell? ⟨Q,0,none⟩=some (.slice (some ⟨g,0,none⟩) X1.length cap):=fun o o2=>(fF _ _ _ (by simp;omega)).trans (ea o)
     have HNC:=ae (HA3.out.drew.sN 3 1 0 [] rfl (by omega))
     have HNA:=ae ((HA3.out.drew.sN 3 1 0 [] rfl (by omega)).KU (w3.heap.size+1) (by simp) 3 1 1 [.int .i64 (c:Int)] rfl (by omega))
     have HNB:=ae ((HA3.out.drew.sN 3 1 1 [.int .i64 (c:Int)] rfl (by omega)).KU (w3.heap.size+1) (by simp) 3 1 0 [] rfl (by omega))
     have hwr:IntKind.i64.wrap ((j:Int)+1)=(j:Int)+1:=XR _ (by omega) (by omega)
     have hj1:(j:Int)≤(xp1.m.kids.length:Int):=by omega
     have hj2:(0:Int)≤(j:Int):=by omega
     have hj3:(j:Int).toNat=j:=by omega
     have T1:=ae (show(kC (xp1.m.kids.take j)).length=j*1 from by rw [D9,fC];omega)
     have T3:=ae (AV (xp1.m.kids.take j))
     have U1:=ae (show(kC (xp1.m.kids.drop j)).length=(xp1.m.kids.length - j)*1 from by rw [D9,aS];omega)
     have U3:=ae (AV (xp1.m.kids.drop j))
     clear e0' hb3 f0 f5
     rcases hok1:uY.out.2 with ⟨hsl,hl0⟩ | ⟨gk,kc',cur,hsl,hrest⟩
     ·simp only [bD] at hsl
      obtain⟨rfl,hml,rfl⟩:=hsl
      have hj0:j=0:=by omega
      have hk0:xp1.m.kids=[]:=dh hml
      have HEx:=ae (show([.int .i64 (c:Int)]:List Value)=kC (xp1.m.kids.take j ++ c :: xp1.m.kids.drop j) from by rw [hk0,hj0];rfl)
      clear hok1
      subst hj0
      go_region_held3 (fun w'=>w'.cell? ⟨Q,0,none⟩=some (.slice (some ⟨g,0,none⟩) X1.length cap)) (first | exact e0 | exact ea _ | exact ea2 _ _ | exact e4 | exact ea4 _ | exact e5' | exact e6 | (go_keep;done))
       (first
       | (refine fB sS [] HNC.out (aG _ 0 _ _) (fun u hu=>by cases hu) (by omega) (by omega) (by rfl) _ _ (by rfl) (by rfl) (by rfl) ?_;intro v' w4 hA4;have e4:=HQx.out _ hA4.below;(try simp only [List.nil_append,aT,List.cons_append,aJ,Nat.add_zero] at hA4);obtain⟨va,vc,rfl⟩:=aW (show Own _ _ _ _ _ _ from hA4.head);have HA4c:=ae hA4;have hq4:=aO hQb hA4.below.size;have ea4:∀o,(w4.alloc o).cell? ⟨Q,0,none⟩=some (.slice (some ⟨g,0,none⟩) X1.length cap):=(fun o=>(fF _ _ _ hq4).trans e4);clear hA4)
       | (refine fB sS [_] HNA.out (aG _ 0 _ _) (fun u hu=>by cases hu) (by omega) (by omega) (by rfl) _ _ (by rfl) (by rfl) (by rfl) ?_;intro v' w4 hA4;have e4:=HQx.out _ hA4.below;(try simp only [List.nil_append,aT,List.cons_append,aJ,Nat.add_zero] at hA4);obtain⟨va,vc,rfl⟩:=aW (show Own _ _ _ _ _ _ from hA4.tail.head);have HA4a:=ae hA4;have hq4:=aO hQb hA4.below.size;have ea4:∀o,(w4.alloc o).cell? ⟨Q,0,none⟩=some (.slice (some ⟨g,0,none⟩) X1.length cap):=(fun o=>(fF _ _ _ hq4).trans e4);clear hA4)
       | (refine fB sS [] HNB.out (aG _ 0 _ _) (fun u hu=>by cases hu) (by omega) (by omega) (by rfl) _ _ (by rfl) (by rfl) (by rfl) ?_;intro v' w4 hA4;have e4:=HQx.out _ hA4.below;(try simp only [List.nil_append,aT,List.cons_append,aJ,Nat.add_zero] at hA4);obtain⟨va,vc,rfl⟩:=aW (show Own _ _ _ _ _ _ from hA4.head);have HA4b:=ae hA4;have hq4:=aO hQb hA4.below.size;have ea4:∀o,(w4.alloc o).cell? ⟨Q,0,none⟩=some (.slice (some ⟨g,0,none⟩) X1.length cap):=(fun o=>(fF _ _ _ hq4).trans e4);clear hA4)
       | (refine fB sS [_] (HA4c.out.sN 3 1 1 [.int .i64 (c:Int)] rfl (by omega)) (HA4c.out.sN 3 1 1 [.int .i64 (c:Int)] rfl (by omega)).head (fun u hu=>by simp at hu;subst hu;rfl) (by omega) (by omega) (by rfl) _ _ (by rfl) (by rfl) (by rfl) ?_;intro v' w5 hA5;have e5':=HQx.out _ hA5.below;(try simp only [List.nil_append,aT,List.cons_append,aJ,Nat.add_zero] at hA5);obtain⟨va5,vc5,rfl⟩:=aW (show Own _ _ _ _ _ _ from hA5.tail.head);have HA5c:=ae hA5;clear hA5)
       | (refine fB sS [_] HA4a.out HA4a.out.head (fun u hu=>by simp at hu;subst hu;rfl) (by omega) (by omega) (by rfl) _ _ (by rfl) (by rfl) (by rfl) ?_;intro v' w5 hA5;have e5':=HQx.out _ hA5.below;(try simp only [List.nil_append,aT,List.cons_append,aJ,Nat.add_zero] at hA5);obtain⟨va5,vc5,rfl⟩:=aW (show Own _ _ _ _ _ _ from hA5.tail.head);have HA5a:=ae hA5;clear hA5)
       | (refine fB sS [] HA4b.out HA4b.out.tail.head (fun u hu=>by simp at hu;subst hu;rfl) (by omega) (by omega) (by rfl) _ _ (by rfl) (by rfl) (by rfl) ?_;intro v' w5 hA5;have e5':=HQx.out _ hA5.below;(try simp only [List.nil_append,aT,List.cons_append,aJ,Nat.add_zero] at hA5);obtain⟨va5,vc5,rfl⟩:=aW (show Own _ _ _ _ _ _ from hA5.head);have HA5b:=ae hA5;clear hA5)
       | (refine fB sS [_] HA5c.out (aG _ 0 _ _) (fun u hu=>by cases hu) (by omega) (by omega) (by rfl) _ _ (by rfl) (by rfl) (by rfl) ?_;intro v' w6 hA6;have e6:=HQx.out _ hA6.below;have f6:=HF5.out _ hA6.below;have z6:=HFz.out _ hA6.below (p*7+5);(try simp only [List.nil_append,aT,List.cons_append,aJ,Nat.add_zero] at hA6);have hA7:=hA6.tail;obtain⟨va6,vc6,rfl⟩:=aW (show Own _ _ _ _ _ _ from hA7.head);(try simp only [bu,List.cons_append,List.nil_append] at hA7);rw [HEx.out] at hA7;have HA7:=ae hA7;clear hA6 hA7)
       | (refine fB sS [_] HA5a.out (aG _ 0 _ _) (fun u hu=>by cases hu) (by omega) (by omega) (by rfl) _ _ (by rfl) (by rfl) (by rfl) ?_;intro v' w6 hA6;have e6:=HQx.out _ hA6.below;have f6:=HF5.out _ hA6.below;have z6:=HFz.out _ hA6.below (p*7+5);(try simp only [List.nil_append,aT,List.cons_append,aJ,Nat.add_zero] at hA6);have hA7:=hA6.tail;obtain⟨va6,vc6,rfl⟩:=aW (show Own _ _ _ _ _ _ from hA7.head);(try simp only [bu,List.cons_append,List.nil_append] at hA7);rw [HEx.out] at hA7;have HA7:=ae hA7;clear hA6 hA7)
       | (refine fB sS [] HA5b.out (aG _ 0 _ _) (fun u hu=>by cases hu) (by omega) (by omega) (by rfl) _ _ (by rfl) (by rfl) (by rfl) ?_;intro v' w6 hA6;have e6:=HQx.out _ hA6.below;have f6:=HF5.out _ hA6.below;have z6:=HFz.out _ hA6.below (p*7+5);(try simp only [List.nil_append,aT,List.cons_append,aJ,Nat.add_zero] at hA6);have hA7:=hA6.sub (List.Sublist.cons_cons _ (List.Sublist.cons _ (XH _)));obtain⟨va6,vc6,rfl⟩:=aW (show Own _ _ _ _ _ _ from hA7.head);(try simp only [bu,List.cons_append,List.nil_append] at hA7);rw [HEx.out] at hA7;have HA7:=ae hA7;clear hA6 hA7))
      all_goals
       obtain⟨X6,hM6,hl6,ho6,-,hs6,hk6⟩:=zF HM.out.at_ HXP.out HA7.out
       have hk:Own _ _ _ _ _ _:=hk6 _ (List.Mem.head _)
       have hkb:=HA7.out.base _ (List.Mem.tail _ (List.Mem.head _))
       have q0:=hM6.at_.W.ptr
       have hcx:X6[c]? = some xc1:=by rw [ho6 c (fun e=>hpc e.symm)];exact HXC.out
       have q4:=hM6.at_.W.cell hcx 4 (by omega)
       simp only [qZ,fQ,fP] at q4
       have qz:=hM6.at_.W.Ou (c*7+4)
       have lc6:c < X6.length:=by omega
       have HM6:=ae hM6
       have HCX:=ae hcx
       have HK:=ae hk
       have HKB:=ae hkb
       have HS6:=ae hs6
       clear hM6 hcx hk hkb hk6 hs6 ho6 f6 z6
       go_wp2_with fail
       obtain⟨X7,hM7,hl7,-,-,hs7⟩:=CP HM6.out.at_ HCX.out (some p)
       go_ret2
       have hms7:ms X7=oU (ms X1) p 0 c:=by
        rw [hs7,HS6.out]
        exact Hl (ms X1) p 0 c xp1.m xc1.m (lV HP1.out).1 (by rw [hxcm];exact(lV HC1.out).1) hpc
       refine⟨X7,v3,rs ++ [Ti p c z1 z2 0],by rw [hms7];exact HFj.out,rfl,?_,(HM.out.trans HM6.out).trans hM7⟩
       refine own_base ?_ ?_
       ·have h9:=tY HK.out ⟨g,c*7+4,none⟩ (fun e=>by have:=HKB.out g e;omega) (.int .i64 (pI (some p)))
        rw [aA,List.length_singleton,wJ]
        exact h9
       ·exact fun k hk=>aQ HM.out.qU.size (HKB.out k hk)
     ·simp only [bD] at hsl
      obtain⟨rfl,-,rfl⟩:=hsl
      have hkcl:xp1.m.kids.length≤kc:=hrest.2.2.1
      have hkc1:(j:Int)≤(kc:Int):=by omega
      have T2:=ae (show ∀wx,Below wb.heap.size wb wx→∀t u,(kC (xp1.m.kids.take j))[t]? = some u→wx.cell? ((⟨gk,0,none⟩:Addr).add t)=some u from fun wx hb t u hu=>by
       refine iM (bH uY.out hb) t u ?_
       unfold kC at hu ⊢
       rw [Yc] at hu
       rw [eX] at hu
       split at hu
       ·exact hu
       ·cases hu)
      have U2:=ae (show ∀wx,Below wb.heap.size wb wx→∀t u,(kC (xp1.m.kids.drop j))[t]? = some u→wx.cell? ((⟨gk,j,none⟩:Addr).add t)=some u from fun wx hb t u hu=>by
       have:=iM (bH uY.out hb) (j+t) u (by
        unfold kC at hu ⊢
        rw [Yd,oM] at hu
        exact hu)
       rw [aP] at this ⊢
       rw [show 0+(j+t)=j+t by omega] at this
       exact this)
      clear hok1 hrest
      by_cases hce:kc=j
      ·have HEx:=ae (show kC (xp1.m.kids.take j) ++ [.int .i64 (c:Int)]=kC (xp1.m.kids.take j ++ c :: xp1.m.kids.drop j) from by rw [fK (by omega)];simp [kC])
       have hml:xp1.m.kids.length=j:=by omega
       have hml2:xp1.m.kids.length - j=0:=by omega
       go_region_held3 (fun w'=>w'.cell? ⟨Q,0,none⟩=some (.slice (some ⟨g,0,none⟩) X1.length cap)) (first | exact e0 | exact ea _ | exact ea2 _ _ | exact e4 | exact ea4 _ | exact e5' | exact e6 | (go_keep;done))
        (first
        | (refine bU sS [] HNC.out T1.out (T2.out _ (All.below HNC.out)) T3.out (by omega) (by omega) (by rfl) _ _ (by rfl) (by rfl) (by rfl) ?_;intro v' w4 hA4 _;have e4:=HQx.out _ hA4.below;(try simp only [List.nil_append,aT,List.cons_append,aJ,Nat.add_zero] at hA4);obtain⟨va,vc,rfl⟩:=aW (show Own _ _ _ _ _ _ from hA4.head);have HA4c:=ae hA4;have hq4:=aO hQb hA4.below.size;have ea4:∀o,(w4.alloc o).cell? ⟨Q,0,none⟩=some (.slice (some ⟨g,0,none⟩) X1.length cap):=(fun o=>(fF _ _ _ hq4).trans e4);clear hA4)
        | (refine bU sS [_] HNA.out T1.out (T2.out _ (All.below HNA.out)) T3.out (by omega) (by omega) (by rfl) _ _ (by rfl) (by rfl) (by rfl) ?_;intro v' w4 hA4 _;have e4:=HQx.out _ hA4.below;(try simp only [List.nil_append,aT,List.cons_append,aJ,Nat.add_zero] at hA4);obtain⟨va,vc,rfl⟩:=aW (show Own _ _ _ _ _ _ from hA4.tail.head);have HA4a:=ae hA4;have hq4:=aO hQb hA4.below.size;have ea4:∀o,(w4.alloc o).cell? ⟨Q,0,none⟩=some (.slice (some ⟨g,0,none⟩) X1.length cap):=(fun o=>(fF _ _ _ hq4).trans e4);clear hA4)
        | (refine bU sS [] HNB.out T1.out (T2.out _ (All.below HNB.out)) T3.out (by omega) (by omega) (by rfl) _ _ (by rfl) (by rfl) (by rfl) ?_;intro v' w4 hA4 _;have e4:=HQx.out _ hA4.below;(try simp only [List.nil_append,aT,List.cons_append,aJ,Nat.add_zero] at hA4);obtain⟨va,vc,rfl⟩:=aW (show Own _ _ _ _ _ _ from hA4.head);have HA4b:=ae hA4;have hq4:=aO hQb hA4.below.size;have ea4:∀o,(w4.alloc o).cell? ⟨Q,0,none⟩=some (.slice (some ⟨g,0,none⟩) X1.length cap):=(fun o=>(fF _ _ _ hq4).trans e4);clear hA4)
        | (refine fB sS [_] (HA4c.out.sN 3 1 1 [.int .i64 (c:Int)] rfl (by omega)) (HA4c.out.sN 3 1 1 [.int .i64 (c:Int)] rfl (by omega)).head (fun u hu=>by simp at hu;subst hu;rfl) (by omega) (by omega) (by rfl) _ _ (by rfl) (by rfl) (by rfl) ?_;intro v' w5 hA5;have e5':=HQx.out _ hA5.below;(try simp only [List.nil_append,aT,List.cons_append,aJ,Nat.add_zero] at hA5);obtain⟨va5,vc5,rfl⟩:=aW (show Own _ _ _ _ _ _ from hA5.tail.head);have HA5c:=ae hA5;clear hA5)
        | (refine fB sS [_] HA4a.out HA4a.out.head (fun u hu=>by simp at hu;subst hu;rfl) (by omega) (by omega) (by rfl) _ _ (by rfl) (by rfl) (by rfl) ?_;intro v' w5 hA5;have e5':=HQx.out _ hA5.below;(try simp only [List.nil_append,aT,List.cons_append,aJ,Nat.add_zero] at hA5);obtain⟨va5,vc5,rfl⟩:=aW (show Own _ _ _ _ _ _ from hA5.tail.head);have HA5a:=ae hA5;clear hA5)
        | (refine fB sS [] HA4b.out HA4b.out.tail.head (fun u hu=>by simp at hu;subst hu;rfl) (by omega) (by omega) (by rfl) _ _ (by rfl) (by rfl) (by rfl) ?_;intro v' w5 hA5;have e5':=HQx.out _ hA5.below;(try simp only [List.nil_append,aT,List.cons_append,aJ,Nat.add_zero] at hA5);obtain⟨va5,vc5,rfl⟩:=aW (show Own _ _ _ _ _ _ from hA5.head);have HA5b:=ae hA5;clear hA5)
        | ((first | (refine bU sS [_] HA5c.out (m:=0) (ys:=[]) rfl (fun t u hu=>by cases hu) (fun u hu=>by cases hu) (by omega) (by omega) (by rfl) _ _ (by rfl) (by rfl) (by rfl) ?_) | (refine bU sS [_] HA5c.out (m:=xp1.m.kids.length - j) (ys:=[]) (by simp [hml2]) (fun t u hu=>by cases hu) (fun u hu=>by cases hu) (by omega) (by omega) (by rfl) _ _ (by rfl) (by rfl) (by rfl) ?_));intro v' w6 hA6 _;have e6:=HQx.out _ hA6.below;have f6:=HF5.out _ hA6.below;have z6:=HFz.out _ hA6.below (p*7+5);(try simp only [List.nil_append,aT,List.cons_append,aJ,Nat.add_zero] at hA6);have hA7:=hA6.tail;obtain⟨va6,vc6,rfl⟩:=aW (show Own _ _ _ _ _ _ from hA7.head);(try simp only [bu,List.cons_append,List.nil_append] at hA7);rw [HEx.out] at hA7;have HA7:=ae hA7;clear hA6 hA7)
        | ((first | (refine bU sS [_] HA5a.out (m:=0) (ys:=[]) rfl (fun t u hu=>by cases hu) (fun u hu=>by cases hu) (by omega) (by omega) (by rfl) _ _ (by rfl) (by rfl) (by rfl) ?_) | (refine bU sS [_] HA5a.out (m:=xp1.m.kids.length - j) (ys:=[]) (by simp [hml2]) (fun t u hu=>by cases hu) (fun u hu=>by cases hu) (by omega) (by omega) (by rfl) _ _ (by rfl) (by rfl) (by rfl) ?_));intro v' w6 hA6 _;have e6:=HQx.out _ hA6.below;have f6:=HF5.out _ hA6.below;have z6:=HFz.out _ hA6.below (p*7+5);(try simp only [List.nil_append,aT,List.cons_append,aJ,Nat.add_zero] at hA6);have hA7:=hA6.tail;obtain⟨va6,vc6,rfl⟩:=aW (show Own _ _ _ _ _ _ from hA7.head);(try simp only [bu,List.cons_append,List.nil_append] at hA7);rw [HEx.out] at hA7;have HA7:=ae hA7;clear hA6 hA7)
        | ((first | (refine bU sS [] HA5b.out (m:=0) (ys:=[]) rfl (fun t u hu=>by cases hu) (fun u hu=>by cases hu) (by omega) (by omega) (by rfl) _ _ (by rfl) (by rfl) (by rfl) ?_) | (refine bU sS [] HA5b.out (m:=xp1.m.kids.length - j) (ys:=[]) (by simp [hml2]) (fun t u hu=>by cases hu) (fun u hu=>by cases hu) (by omega) (by omega) (by rfl) _ _ (by rfl) (by rfl) (by rfl) ?_));intro v' w6 hA6 _;have e6:=HQx.out _ hA6.below;have f6:=HF5.out _ hA6.below;have z6:=HFz.out _ hA6.below (p*7+5);(try simp only [List.nil_append,aT,List.cons_append,aJ,Nat.add_zero] at hA6);have hA7:=hA6.sub (List.Sublist.cons_cons _ (List.Sublist.cons _ (XH _)));obtain⟨va6,vc6,rfl⟩:=aW (show Own _ _ _ _ _ _ from hA7.head);(try simp only [bu,List.cons_append,List.nil_append] at hA7);rw [HEx.out] at hA7;have HA7:=ae hA7;clear hA6 hA7))
       all_goals
        obtain⟨X6,hM6,hl6,ho6,-,hs6,hk6⟩:=zF HM.out.at_ HXP.out HA7.out
        have hk:Own _ _ _ _ _ _:=hk6 _ (List.Mem.head _)
        have hkb:=HA7.out.base _ (List.Mem.tail _ (List.Mem.head _))
        have q0:=hM6.at_.W.ptr
        have hcx:X6[c]? = some xc1:=by rw [ho6 c (fun e=>hpc e.symm)];exact HXC.out
        have q4:=hM6.at_.W.cell hcx 4 (by omega)
        simp only [qZ,fQ,fP] at q4
        have qz:=hM6.at_.W.Ou (c*7+4)
        have lc6:c < X6.length:=by omega
        have HM6:=ae hM6
        have HCX:=ae hcx
        have HK:=ae hk
        have HKB:=ae hkb
        have HS6:=ae hs6
        clear hM6 hcx hk hkb hk6 hs6 ho6 f6 z6
        go_wp2_with fail
        obtain⟨X7,hM7,hl7,-,-,hs7⟩:=CP HM6.out.at_ HCX.out (some p)
        go_ret2
        have hms7:ms X7=oU (ms X1) p j c:=by
         rw [hs7,HS6.out]
         exact Hl (ms X1) p j c xp1.m xc1.m (lV HP1.out).1 (by rw [hxcm];exact(lV HC1.out).1) hpc
        refine⟨X7,v3,rs ++ [Ti p c z1 z2 j],by rw [hms7];exact HFj.out,rfl,?_,(HM.out.trans HM6.out).trans hM7⟩
        refine own_base ?_ ?_
        ·have h9:=tY HK.out ⟨g,c*7+4,none⟩ (fun e=>by have:=HKB.out g e;omega) (.int .i64 (pI (some p)))
         rw [aA,List.length_singleton,wJ]
         exact h9
        ·exact fun k hk=>aQ HM.out.qU.size (HKB.out k hk)
      ·have HEx:=ae (show kC (xp1.m.kids.take j) ++ (.int .i64 (c:Int) :: kC (xp1.m.kids.drop j))=kC (xp1.m.kids.take j ++ c :: xp1.m.kids.drop j) from by simp [kC])
       go_region_held3 (fun w'=>w'.cell? ⟨Q,0,none⟩=some (.slice (some ⟨g,0,none⟩) X1.length cap)) (first | exact e0 | exact ea _ | exact ea2 _ _ | exact e4 | exact ea4 _ | exact e5' | exact e6 | (go_keep;done))
        (first
        | (refine bU sS [] HNC.out T1.out (T2.out _ (All.below HNC.out)) T3.out (by omega) (by omega) (by rfl) _ _ (by rfl) (by rfl) (by rfl) ?_;intro v' w4 hA4 _;have e4:=HQx.out _ hA4.below;(try simp only [List.nil_append,aT,List.cons_append,aJ,Nat.add_zero] at hA4);obtain⟨va,vc,rfl⟩:=aW (show Own _ _ _ _ _ _ from hA4.head);have HA4c:=ae hA4;have hq4:=aO hQb hA4.below.size;have ea4:∀o,(w4.alloc o).cell? ⟨Q,0,none⟩=some (.slice (some ⟨g,0,none⟩) X1.length cap):=(fun o=>(fF _ _ _ hq4).trans e4);clear hA4)
        | (refine bU sS [_] HNA.out T1.out (T2.out _ (All.below HNA.out)) T3.out (by omega) (by omega) (by rfl) _ _ (by rfl) (by rfl) (by rfl) ?_;intro v' w4 hA4 _;have e4:=HQx.out _ hA4.below;(try simp only [List.nil_append,aT,List.cons_append,aJ,Nat.add_zero] at hA4);obtain⟨va,vc,rfl⟩:=aW (show Own _ _ _ _ _ _ from hA4.tail.head);have HA4a:=ae hA4;have hq4:=aO hQb hA4.below.size;have ea4:∀o,(w4.alloc o).cell? ⟨Q,0,none⟩=some (.slice (some ⟨g,0,none⟩) X1.length cap):=(fun o=>(fF _ _ _ hq4).trans e4);clear hA4)
        | (refine bU sS [] HNB.out T1.out (T2.out _ (All.below HNB.out)) T3.out (by omega) (by omega) (by rfl) _ _ (by rfl) (by rfl) (by rfl) ?_;intro v' w4 hA4 _;have e4:=HQx.out _ hA4.below;(try simp only [List.nil_append,aT,List.cons_append,aJ,Nat.add_zero] at hA4);obtain⟨va,vc,rfl⟩:=aW (show Own _ _ _ _ _ _ from hA4.head);have HA4b:=ae hA4;have hq4:=aO hQb hA4.below.size;have ea4:∀o,(w4.alloc o).cell? ⟨Q,0,none⟩=some (.slice (some ⟨g,0,none⟩) X1.length cap):=(fun o=>(fF _ _ _ hq4).trans e4);clear hA4)
        | (refine fB sS [_] (HA4c.out.sN 3 1 1 [.int .i64 (c:Int)] rfl (by omega)) (HA4c.out.sN 3 1 1 [.int .i64 (c:Int)] rfl (by omega)).head (fun u hu=>by simp at hu;subst hu;rfl) (by omega) (by omega) (by rfl) _ _ (by rfl) (by rfl) (by rfl) ?_;intro v' w5 hA5;have e5':=HQx.out _ hA5.below;(try simp only [List.nil_append,aT,List.cons_append,aJ,Nat.add_zero] at hA5);obtain⟨va5,vc5,rfl⟩:=aW (show Own _ _ _ _ _ _ from hA5.tail.head);have HA5c:=ae hA5;clear hA5)
        | (refine fB sS [_] HA4a.out HA4a.out.head (fun u hu=>by simp at hu;subst hu;rfl) (by omega) (by omega) (by rfl) _ _ (by rfl) (by rfl) (by rfl) ?_;intro v' w5 hA5;have e5':=HQx.out _ hA5.below;(try simp only [List.nil_append,aT,List.cons_append,aJ,Nat.add_zero] at hA5);obtain⟨va5,vc5,rfl⟩:=aW (show Own _ _ _ _ _ _ from hA5.tail.head);have HA5a:=ae hA5;clear hA5)
        | (refine fB sS [] HA4b.out HA4b.out.tail.head (fun u hu=>by simp at hu;subst hu;rfl) (by omega) (by omega) (by rfl) _ _ (by rfl) (by rfl) (by rfl) ?_;intro v' w5 hA5;have e5':=HQx.out _ hA5.below;(try simp only [List.nil_append,aT,List.cons_append,aJ,Nat.add_zero] at hA5);obtain⟨va5,vc5,rfl⟩:=aW (show Own _ _ _ _ _ _ from hA5.head);have HA5b:=ae hA5;clear hA5)
        | (refine bU sS [_] HA5c.out U1.out (U2.out _ (All.below HA5c.out)) U3.out (by omega) (by omega) (by rfl) _ _ (by rfl) (by rfl) (by rfl) ?_;intro v' w6 hA6 _;have e6:=HQx.out _ hA6.below;have f6:=HF5.out _ hA6.below;have z6:=HFz.out _ hA6.below (p*7+5);(try simp only [List.nil_append,aT,List.cons_append,aJ,Nat.add_zero] at hA6);have hA7:=hA6.tail;obtain⟨va6,vc6,rfl⟩:=aW (show Own _ _ _ _ _ _ from hA7.head);(try simp only [bu,List.cons_append,List.nil_append] at hA7);rw [HEx.out] at hA7;have HA7:=ae hA7;clear hA6 hA7)
        | (refine bU sS [_] HA5a.out U1.out (U2.out _ (All.below HA5a.out)) U3.out (by omega) (by omega) (by rfl) _ _ (by rfl) (by rfl) (by rfl) ?_;intro v' w6 hA6 _;have e6:=HQx.out _ hA6.below;have f6:=HF5.out _ hA6.below;have z6:=HFz.out _ hA6.below (p*7+5);(try simp only [List.nil_append,aT,List.cons_append,aJ,Nat.add_zero] at hA6);have hA7:=hA6.tail;obtain⟨va6,vc6,rfl⟩:=aW (show Own _ _ _ _ _ _ from hA7.head);(try simp only [bu,List.cons_append,List.nil_append] at hA7);rw [HEx.out] at hA7;have HA7:=ae hA7;clear hA6 hA7)
        | (refine bU sS [] HA5b.out U1.out (U2.out _ (All.below HA5b.out)) U3.out (by omega) (by omega) (by rfl) _ _ (by rfl) (by rfl) (by rfl) ?_;intro v' w6 hA6 _;have e6:=HQx.out _ hA6.below;have f6:=HF5.out _ hA6.below;have z6:=HFz.out _ hA6.below (p*7+5);(try simp only [List.nil_append,aT,List.cons_append,aJ,Nat.add_zero] at hA6);have hA7:=hA6.sub (List.Sublist.cons_cons _ (List.Sublist.cons _ (XH _)));obtain⟨va6,vc6,rfl⟩:=aW (show Own _ _ _ _ _ _ from hA7.head);(try simp only [bu,List.cons_append,List.nil_append] at hA7);rw [HEx.out] at hA7;have HA7:=ae hA7;clear hA6 hA7))
       all_goals
        obtain⟨X6,hM6,hl6,ho6,-,hs6,hk6⟩:=zF HM.out.at_ HXP.out HA7.out
        have hk:Own _ _ _ _ _ _:=hk6 _ (List.Mem.head _)
        have hkb:=HA7.out.base _ (List.Mem.tail _ (List.Mem.head _))
        have q0:=hM6.at_.W.ptr
        have hcx:X6[c]? = some xc1:=by rw [ho6 c (fun e=>hpc e.symm)];exact HXC.out
        have q4:=hM6.at_.W.cell hcx 4 (by omega)
        simp only [qZ,fQ,fP] at q4
        have qz:=hM6.at_.W.Ou (c*7+4)
        have lc6:c < X6.length:=by omega
        have HM6:=ae hM6
        have HCX:=ae hcx
        have HK:=ae hk
        have HKB:=ae hkb
        have HS6:=ae hs6
        clear hM6 hcx hk hkb hk6 hs6 ho6 f6 z6
        go_wp2_with fail
        obtain⟨X7,hM7,hl7,-,-,hs7⟩:=CP HM6.out.at_ HCX.out (some p)
        go_ret2
        have hms7:ms X7=oU (ms X1) p j c:=by
         rw [hs7,HS6.out]
         exact Hl (ms X1) p j c xp1.m xc1.m (lV HP1.out).1 (by rw [hxcm];exact(lV HC1.out).1) hpc
        refine⟨X7,v3,rs ++ [Ti p c z1 z2 j],by rw [hms7];exact HFj.out,rfl,?_,(HM.out.trans HM6.out).trans hM7⟩
        refine own_base ?_ ?_
        ·have h9:=tY HK.out ⟨g,c*7+4,none⟩ (fun e=>by have:=HKB.out g e;omega) (.int .i64 (pI (some p)))
         rw [aA,List.length_singleton,wJ]
         exact h9
        ·exact fun k hk=>aQ HM.out.qU.size (HKB.out k hk)
theorem Rz {Q g cap:Nat}{X:List MX}{D:Nat→Nat}{w:World}(h:jC Q (.slice (some ⟨g,0,none⟩) X.length cap) X w)(hW:MW (ms X) D){p c:Nat}{mc mp:MN}(hc:lv (ms X) c=some mc)(hp:lv (ms X) p=some mp)(o:Int)(hch:zt (ms X) D p c mp mc=false) :
  Calls Tryz.prog 43 #[.pointer (some ⟨Q,0,none⟩),.int .i64 (p:Int),.int .i64 (c:Int),.int .i64 o] w fun e w'=>e=.returned (.tuple #[.slice none 0 0,.int .i64 10])∧w'=w:=by
 have HCh:=ae (uj h.W hW p c hp hc)
 rw [hch] at HCh
 clear h hW hc hp hch
 go_enter Tryz.func43,Tryz.ntmps43
 go_wp2_with fail
 refine HCh.out.mono ?_
 rintro e w2 ⟨rfl,hw⟩
 rw [hw]
 clear hw
 go_wp2_with fail
 go_ret2
 exact⟨rfl,rfl⟩
theorem La {Q g cap:Nat}{X:List MX}{D:Nat→Nat}{w:World}(h:jC Q (.slice (some ⟨g,0,none⟩) X.length cap) X w)(hW:MW (ms X) D){p c b:Nat}{mc mp mb:MN}(hc:lv (ms X) c=some mc)(hp:lv (ms X) p=some mp)(hb:lv (ms X) b=some mb)(hch:zt (ms X) D p c mp mc=true)(hbp:mb.par≠some p) :
  Calls Tryz.prog 43 #[.pointer (some ⟨Q,0,none⟩),.int .i64 (p:Int),.int .i64 (c:Int),.int .i64 (b:Int)] w fun e w'=>e=.returned (.tuple #[.slice none 0 0,.int .i64 10])∧w'=w:=by
 have HCh:=ae (uj h.W hW p c hp hc)
 rw [hch] at HCh
 have c0:=h.W.ptr
 have lb:=lU hb
 obtain⟨_,c4,_⟩:=h.W.FZ hb
 have hne:pI mb.par≠(p:Int):=fun e=>by
  cases e2:mb.par with
  | none=>rw [e2] at e;have e:(-1:Int)=(p:Int):=e;omega
  | some q=>rw [e2] at e hbp;have e:(q:Int)=(p:Int):=e;exact hbp (by rw [show q=p by omega])
 have hbi:(b:Int) < (X.length:Int):=by omega
 have d1:(pI mb.par != (p:Int))=true:=by simpa using hne
 generalize pI mb.par=pp at *
 clear h hW hc hp hb hch hbp
 go_enter Tryz.func43,Tryz.ntmps43
 go_wp2_with fail
 refine HCh.out.mono ?_
 rintro e w2 ⟨rfl,hw⟩
 rw [hw]
 clear hw
 go_wp2_with fail
 go_ret2
 exact⟨rfl,rfl⟩
theorem P6 {Q g cap:Nat}{X:List MX}{D:Nat→Nat}{w:World}(h:jC Q (.slice (some ⟨g,0,none⟩) X.length cap) X w)(hW:MW (ms X) D){p c:Nat}{mc mp:MN}(hc:lv (ms X) c=some mc)(hp:lv (ms X) p=some mp)(o:Option Nat)
  (ho:∀b,o=some b→∃mb,lv (ms X) b=some mb∧mb.par=some p)(hch:zt (ms X) D p c mp mc=true)(hdep:128 < D p+hgt (kM (ms X)) (128 - D c) c) :
  Calls Tryz.prog 43 #[.pointer (some ⟨Q,0,none⟩),.int .i64 (p:Int),.int .i64 (c:Int),.int .i64 (pI o)] w fun e w'=>e=.returned (.tuple #[.slice none 0 0,.int .i64 5])∧w'=w:=by
 have HCh:=ae (uj h.W hW p c hp hc)
 rw [hch] at HCh
 have HDp:=ae (DW h.W hW p hp)
 have HHt:=ae (Bv hW (128 - D c) c mc hc rfl w h.W)
 have hhl:=ql (kM (ms X)) (128 - D c) c
 have hdl:=hW.low p mp hp
 have c0:=h.W.ptr
 generalize hgt (kM (ms X)) (128 - D c) c=hz at *
 generalize hdz:D p=dz at *
 have dd:decide ((128:Int) < (dz:Int)+(hz:Int))=true:=by simp;omega
 cases o with
 | none =>
  rw [show pI none=-1 from rfl]
  clear h hW hc hp hch ho
  go_enter Tryz.func43,Tryz.ntmps43
  go_wp2_with fail
  refine HCh.out.mono ?_
  rintro e w2 ⟨rfl,hw⟩
  rw [hw]
  clear hw
  go_wp2_with fail
  refine HDp.out.mono ?_
  rintro e w2 ⟨rfl,hw⟩
  rw [hw]
  clear hw
  go_wp2_with fail
  refine HHt.out.mono ?_
  rintro e w2 ⟨rfl,hw⟩
  rw [hw]
  clear hw
  go_wp2_with fail
  go_ret2
  exact⟨rfl,rfl⟩
 | some b =>
  obtain⟨mb,hb,hbp⟩:=ho b rfl
  have lb:=lU hb
  obtain⟨_,c4,_⟩:=h.W.FZ hb
  rw [hbp,show pI (some p)=(p:Int) from rfl] at c4
  have hbi:(b:Int) < (X.length:Int):=by omega
  rw [show pI (some b)=(b:Int) from rfl]
  clear h hW hc hp hch ho hb
  go_enter Tryz.func43,Tryz.ntmps43
  go_wp2_with fail
  refine HCh.out.mono ?_
  rintro e w2 ⟨rfl,hw⟩
  rw [hw]
  clear hw
  go_wp2_with fail
  refine HDp.out.mono ?_
  rintro e w2 ⟨rfl,hw⟩
  rw [hw]
  clear hw
  go_wp2_with fail
  refine HHt.out.mono ?_
  rintro e w2 ⟨rfl,hw⟩
  rw [hw]
  clear hw
  go_wp2_with fail
  go_ret2
  exact⟨rfl,rfl⟩
def UR (M0:List MN)(deep:Bool)(f i:Nat)(m:MN)(Q g cap:Nat)(X:List MX)(w:World)(e:Ending)(w':World):Prop :=
 ∃X' g' cap' en,e=.returned (.int .i64 en)∧((i=0∧en=10∧ms X'=ms X)∨(i≠0∧en=0∧ms X'=ms X ++ (if deep then(dR (kM M0) f i).map (OW M0 (vM (dR (kM M0) f i) X.length) i none) else [⟨m.kind,m.name,m.attrs,m.data,none,[],false⟩]))) ∧
  fU Q (.slice (some ⟨g,0,none⟩) X.length cap) X w (.slice (some ⟨g',0,none⟩) X'.length cap') X' w'
theorem Oh {D:Nat→Nat}(deep:Bool){f i:Nat}{m:MN}{Q g cap:Nat}{X:List MX}{w:World}(hW:MW (ms X) D)(hN:∀f i m,lv (ms X) i=some m→(dR (kM (ms X)) f i).Nodup)(hN2:∀f i m,lv (ms X) i=some m→(dR (kM (ms X)) f i).length≤10000)(ha:∀i m,lv (ms X) i=some m→m.attrs.length≤10000)
  (hi:lv (ms X) i=some m)(hf:128 - D i=f)(h:jC Q (.slice (some ⟨g,0,none⟩) X.length cap) X w)(hl:X.length≤9000) :
  Calls Tryz.prog 101 #[.pointer (some ⟨Q,0,none⟩),.int .i64 (i:Int),.bool deep] w (UR (ms X) deep f i m Q g cap X w):=by
 have HC:=ae (Oe hW hN hN2 ha deep f i m hi hf Q g cap X w none h (fun x y hxy=>(lV hxy).1) (by rw [aY];exact au _) (by
  have:=hN2 f i m hi
  split <;> omega) (fun p hp=>by cases hp))
 have H0:=ae h
 have hil:=kH ⟨m,hi⟩
 clear h hi hW
 rw [show pI none=-1 from rfl] at HC
 by_cases hi0:i=0
 ·subst hi0
  clear HC
  go_enter Tryz.func101,Tryz.ntmps101
  go_wp2_with fail
  go_ret
  exact⟨X,g,cap,10,rfl,.inl ⟨rfl,rfl,rfl⟩,fU.refl H0.out (ak _ _)⟩
 ·have hb:((i:Int) == 0)=false:=by simp;omega
  go_enter Tryz.func101,Tryz.ntmps101
  go_wp2_with fail
  refine HC.out.mono ?_
  rintro e w1 ⟨X',g',cap',hms,⟨v,rfl⟩,_,hM⟩
  have HMs:=ae hms
  have HM:=ae hM
  clear hms hM
  go_wp2_with fail
  go_ret
  exact⟨X',g',cap',0,rfl,.inr ⟨hi0,rfl,HMs.out⟩,HM.out⟩
end Go.Proofs.YtfelmdkeaacfeaaGreatDoor.W
end
