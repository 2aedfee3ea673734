/- Texts joined: Dcm Wkl RegX Rng. -/
import Derived.Test.YtacdbnhnhdlmpaaGreatDoorFR5
import Derived.Deep.Cut
import Derived.OrdersIn
import Derived.TacticsIn
import Derived.OwnWalkIn
set_option maxRecDepth 100000
set_option maxHeartbeats 40000000
set_option linter.unusedVariables false
set_option linter.unusedSimpArgs false
section
namespace Go.Proofs.YtacdbnhnhdlmpaaGreatDoor.W
open Go.RowKit
theorem hdC_eq {S S':Tr}(h:∀x,S'.hd x=S.hd x)(L:List Nat):hdC S' L=hdC S L:=by unfold hdC;simp only [h]
theorem DcI.up {hdf:Nat→Int}{N N':Nat}{S:Tr}{K:Nat→List Nat}{d:Nat→Nat}{L:List Nat}(D:DcI hdf N S K d L)(h:N≤N'):DcI hdf N' S K d L:=⟨D.ok,Nat.le_trans D.len h,D.dep,D.hd,D.b1,D.el,D.oth⟩
theorem document_any {B:Nat}{w0 w:World}{l:List Ob}(h:All B w0 l w)(hL:∀wx,Below B w0 wx→Laid wx)(A:Option Addr)(n c:Nat)(f:Nat→PtF)(hi:∀wx,Below B w0 wx→InPt wx A n f)(hn:n≤25)(hf:∀j,(f j).In) :
  Calls Tryz.prog 27 #[.slice A n c] w fun e w'=>∃R S sv fv K d L v,e=.returned (.tuple #[.pointer (some ⟨R,0,none⟩),v])∧All B w0 (trO R S sv fv :: sl 3 1 v L.length (hdC S L) :: l) w'∧DcI (newT 3 4).hd (2+2*n) S K d L∧L.length=n:=by
 have HNew:=Lib.hid (tree_newA h 3 4)
 have hnil:∀wx,Own wx 85 2 (.slice none 0 0) ([]:List Atr).length (attrC []):=fun wx=>World.ownsRow_nil _ _ _ _
 have HL:=Lib.hid hL
 have HI:=Lib.hid hi
 have HF:=Lib.hid hf
 clear h hL hi hf
 have D0:=dc_new 3 4
 go_enter Tryz.func27,Tryz.ntmps27
 go_wp2_with fail
 refine HNew.out.mono ?_
 rintro e w1 ⟨R,sv0,rfl,hA1⟩
 have HM1:=Lib.hid (make_el hA1 (HL.out _ hA1.below) D0.ok D0.fr (by have:=D0.len;omega) 1 rfl sBody (by decide) (.slice none 0 0) [] (hnil w1) (by simp) (fun a ha=>by cases ha) el_body)
 clear hA1 D0
 go_wp2_with fail
 refine HM1.out.mono ?_
 rintro e w2 ⟨S1,sv1,fv1,rfl,hA2,g1⟩
 have g1':GMk 1 (newT 3 4) (fun _=>[]) (fun _=>1) 1 S1 (2,sBody,[],[]):=g1
 obtain⟨p0,hp0,hk0,_⟩:=nI_some ((g1.nI 0).trans (by rw [if_neg (by omega)];rfl))
 obtain⟨p1,hp1,hk1,_⟩:=nI_some ((g1.nI 1).trans (if_pos (by omega)))
 have HI1:=Lib.hid (ins_all hA2 g1.ok 0 1 p0 p1 hp0 hp1 g1.kid g1.det (by omega) (.inr ⟨hk0,hk1,rfl⟩) (by unfold dAdd;rw [if_neg (by omega)];show 1+1≤128;omega))
 have c5:=(show TAt 0 R S1 sv1 fv1 w2 from hA2.head).blk.cell 5
 simp only [zzD,zzE] at c5
 rw [g1.root] at c5
 rw [g1.hd,g1.hd] at HI1
 have hr0:(newT 3 4).root=(newT 3 4).hd 0:=rfl
 rw [hr0] at c5
 have G1:=Lib.hid g1'
 clear hA2 g1 g1' HM1 HNew hr0
 generalize hdf1:(newT 3 4).hd 1=hb at *
 generalize (newT 3 4).hd 0=h0 at *
 go_wp2_with fail
 refine HI1.out.mono ?_
 rintro e w3 ⟨S2,sv2,fv2,v2,rfl,hA3,g2⟩
 have HD2:=Lib.hid (DcI.start G1.out g2)
 have HA3:=Lib.hid hA3
 have HHb:=Lib.hid hdf1
 clear hA3 g2 HI1 c5 hp0 hp1 hdf1
 go_wp2_with fail
 go_loopw [7,33] (fun lw iv wr=>∃(k:Nat) (S:Tr) (sv fv:Value) (K:Nat→List Nat) (d:Nat→Nat) (L:List Nat),k≤n∧iv=.int .i64 (k:Int)∧All B w0 (trO R S sv fv :: sl 3 1 lw L.length (hdC S L) :: l) wr∧DcI (newT 3 4).hd (2+2*k) S K d L∧L.length=k) (fun _ iv _=>n - (intOf iv).toNat)
 case atStart=>exact⟨0,S2,sv2,fv2,_,_,[],by omega,rfl,(HA3.out.nil 3 1).perm (List.Perm.swap _ _ _),HD2.out,rfl⟩
 case round =>
  obtain⟨k,S,sv,fv,K,d,L,hkn,rfl,hA,hD,hLl⟩:=hrel
  obtain⟨la,lc,rfl⟩:=own_shape (show Own wr 3 1 _ L.length (hdC S L) from hA.tail.head)
  have HA:=Lib.hid hA
  have HD:=Lib.hid hD
  have HLl:=Lib.hid hLl
  clear hD hLl
  by_cases hkl:k < n
  ·obtain⟨gp,off,rfl,hgp,hc⟩:=HI.out wr hA.below (by omega)
   obtain⟨q0,q1,q2,q3⟩:=hc k hkl
   have HQ:=Lib.hid (fun j (hj:j < n)=>(hc j hj).1)
   have hpi:=HF.out k
   have HPi:=Lib.hid hpi
   obtain⟨⟨pk,po,pn,pf⟩,hp⟩:∃p,f k=p:=⟨_,rfl⟩
   have HPk:=Lib.hid hp
   rw [hp] at q0 q1 q2 q3 HPi hpi
   simp only at q0 q1 q2 q3
   obtain⟨hp1,hp2,hp3,hp4⟩:=hpi
   simp only at hp1 hp2 hp3 hp4
   obtain⟨m,hm⟩:∃m,pk % 10=m:=⟨_,rfl⟩
   obtain⟨a3,ha3⟩:∃a3,pf % 3=a3:=⟨_,rfl⟩
   have hm10:m < 10:=by omega
   have hmod:Int.tmod (pk:Int) 10=(m:Int):=by rw [← hm];exact tmod_nat pk 10
   have hmo3:Int.tmod (pf:Int) 3=(a3:Int):=by rw [← ha3];exact tmod_nat pf 3
   obtain⟨ps,hps⟩:∃ps,elP ⟨pk,po,pn,pf⟩=ps:=⟨_,rfl⟩
   have hps2:=hps
   unfold elP at hps2
   simp only [hm,ha3] at hps2
   have hA0:=hA.alloc (.cells #[.string ⟨#[102,111,114,109]⟩,.string ⟨#[100,105,118]⟩,.string ⟨#[105,110,112,117,116]⟩,.string ⟨#[116,101,120,116,97,114,101,97]⟩,.string ⟨#[105,110,112,117,116]⟩,.string ⟨#[105,110,112,117,116]⟩,.string ⟨#[105,110,112,117,116]⟩,.string ⟨#[105,110,112,117,116]⟩,.string ⟨#[98,117,116,116,111,110]⟩,.string ⟨#[97]⟩] 9)
   have hbe:=(Below.refl wr.heap.size wr).alloc (Nat.le_refl _) (.cells #[.string ⟨#[102,111,114,109]⟩,.string ⟨#[100,105,118]⟩,.string ⟨#[105,110,112,117,116]⟩,.string ⟨#[116,101,120,116,97,114,101,97]⟩,.string ⟨#[105,110,112,117,116]⟩,.string ⟨#[105,110,112,117,116]⟩,.string ⟨#[105,110,112,117,116]⟩,.string ⟨#[105,110,112,117,116]⟩,.string ⟨#[98,117,116,116,111,110]⟩,.string ⟨#[97]⟩] 9)
   have ke:=Blk.new wr (elL.map strV) 9
   have he:(elL.map strV)[m]? = some (.string ⟨(elL.getD m []).toArray⟩):=by
    rw [List.getElem?_map,List.getD_eq_getElem?_getD,List.getElem?_eq_getElem (show m < elL.length from hm10)]
    rfl
   have ce:(wr.alloc (.cells #[.string ⟨#[102,111,114,109]⟩,.string ⟨#[100,105,118]⟩,.string ⟨#[105,110,112,117,116]⟩,.string ⟨#[116,101,120,116,97,114,101,97]⟩,.string ⟨#[105,110,112,117,116]⟩,.string ⟨#[105,110,112,117,116]⟩,.string ⟨#[105,110,112,117,116]⟩,.string ⟨#[105,110,112,117,116]⟩,.string ⟨#[98,117,116,116,111,110]⟩,.string ⟨#[97]⟩] 9)).cell? ⟨wr.heap.size,m,none⟩=some (.string ⟨(elL.getD m []).toArray⟩):=(ke.cell m).trans he
   have q0':=cell_keep hbe q0
   have q1':=cell_keep hbe q1
   have q2':=cell_keep hbe q2
   have q3':=cell_keep hbe q3
   have HA0:=Lib.hid hA0
   have HPs:=Lib.hid hps
   have HPs2:=Lib.hid hps2
   have HQ2:=Lib.hid (fun j (hj:j < n)=>cell_keep hbe (HQ.out j hj))
   have HM:=Lib.hid hm
   have HBe:=Lib.hid hbe
   clear hA hA0 hbe ke he hps hps2 hc hp hm ha3 HQ q0 q1 q2 q3
   have q0:=q0'
   have q1:=q1'
   have q2:=q2'
   have q3:=q3'
   clear q0' q1' q2' q3'
   go_upto_region 11 with fail
   generalize hw5:wr.alloc (.cells #[.string ⟨#[102,111,114,109]⟩,.string ⟨#[100,105,118]⟩,.string ⟨#[105,110,112,117,116]⟩,.string ⟨#[116,101,120,116,97,114,101,97]⟩,.string ⟨#[105,110,112,117,116]⟩,.string ⟨#[105,110,112,117,116]⟩,.string ⟨#[105,110,112,117,116]⟩,.string ⟨#[105,110,112,117,116]⟩,.string ⟨#[98,117,116,116,111,110]⟩,.string ⟨#[97]⟩] 9)=w5 at *
   clear hw5 ce
   obtain⟨b1,hb1⟩:∃b:Bool,decide (m=9∧a3 > 0)=b:=⟨_,rfl⟩
   have HB1:=Lib.hid hb1
   clear hb1
   go_cut [60] (fun cv wx=>cv=.bool b1∧wx=w5)
   case first =>
    by_cases hA9:m=9
    ·have gA:((m:Int) == 9)=true:=by simp [hA9]
     by_cases hB3:a3 > 0
     ·have gB:decide (0 < a3)=true:=by simp;omega
      have HR:=Lib.hid (decide_eq_true (p:=m=9∧a3 > 0) ⟨hA9,hB3⟩)
      clear hA9 hB3
      go_wp2_with fail
      go_meet
      exact⟨by rw [← HB1.out,HR.out],rfl⟩
     ·have gB:decide (0 < a3)=false:=by simp;omega
      have HR:=Lib.hid (decide_eq_false (p:=m=9∧a3 > 0) (fun q=>hB3 q.2))
      clear hA9 hB3
      go_wp2_with fail
      go_meet
      exact⟨by rw [← HB1.out,HR.out],rfl⟩
    ·have gA:((m:Int) == 9)=false:=by simp;omega
     have HR:=Lib.hid (decide_eq_false (p:=m=9∧a3 > 0) (fun q=>hA9 q.1))
     clear hA9
     go_wp2_with fail
     go_meet
     exact⟨by rw [← HB1.out,HR.out],rfl⟩
   case rest =>
   obtain⟨rfl,hw⟩:=hcut
   rw [hw]
   clear hw
   go_upto_if 60 with fail
   go_cut [9] (fun nv wx=>nv=.string ⟨ps.toArray⟩∧wx=w5)
   case first =>
    cases b1 with
    | true =>
     have HN:=Lib.hid (show ps=sSpan from by rw [← HPs2.out,if_pos (of_decide_eq_true HB1.out)])
     go_wp2_with fail
     go_meet
     exact⟨by rw [HN.out];rfl,rfl⟩
    | false =>
     have HN:=Lib.hid (show ps=elL.getD m [] from by rw [← HPs2.out,if_neg (of_decide_eq_false HB1.out)])
     go_wp2_with fail
     go_meet
     exact⟨by rw [HN.out,List.getD_eq_getElem?_getD],rfl⟩
   case rest =>
   obtain⟨rfl,hw⟩:=hcut
   rw [hw]
   clear hw HB1 b1
   have HAt:=Lib.hid (fun wx=>pattrs_any wx ⟨pk,po,pn,pf⟩ HPi.out k (by omega))
   simp only at HAt
   go_wp2_with fail
   refine(HAt.out _).mono ?_
   rintro e w6 ⟨va,rfl,hva,hb6⟩
   obtain⟨aa,ac,rfl⟩:=own_shapeB hva
   have hA6:=HA0.out.still hb6
   have hpn:=elP_ok ⟨pk,po,pn,pf⟩
   rw [HPs.out] at hpn
   have hal7:=atL_len ⟨pk,po,pn,pf⟩ k
   have hal0:=atL_ok ⟨pk,po,pn,pf⟩ k
   have hnb:=atL_names ⟨pk,po,pn,pf⟩ k
   have hDl:=HD.out.len
   have HM6:=Lib.hid (make_el hA6 (HL.out _ hA6.below) HD.out.ok.ok HD.out.ok.fr (by omega) S.slots.length rfl ps (by omega) (.slice aa (atL ⟨pk,po,pn,pf⟩ k).length ac) (atL ⟨pk,po,pn,pf⟩ k) (own_low hva (Nat.zero_le _)) (by omega) (fun a ha=>by
    have h1:=hal0 a ha
    have h2:=fix_len3 a.2
    exact⟨by omega,by omega,by omega⟩) (by rw [hpn.1,hnb];rfl))
   have q0:=cell_keep hb6 q0
   have q1:=cell_keep hb6 q1
   have HQ6:=Lib.hid (fun j (hj:j < n)=>cell_keep hb6 (HQ2.out j hj))
   generalize atL ⟨pk,po,pn,pf⟩ k=al at *
   clear hva hb6 hA6 hpn hal7 hal0 hnb HAt HA0 HQ2 HPs HPs2 HPi q2 q3
   go_wp2_with fail
   refine HM6.out.mono ?_
   rintro e w7 ⟨S1,sv1,fv1,rfl,hA7,g1⟩
   have G1:=Lib.hid g1
   have HA7:=Lib.hid hA7
   obtain⟨b2,hb2⟩:∃b:Bool,decide (0 < k∧(f (po % k)).k % 10 < 2)=b:=⟨_,rfl⟩
   have HB2:=Lib.hid hb2
   have HQ7:=Lib.hid (fun j (hj:j < n)=>(show w7.cell? ⟨gp,off+j*4,none⟩=some (.int .u8 ((f j).k:Int)) from by
    obtain⟨b,off',e,_,hc'⟩:=HI.out w7 hA7.below (by omega)
    cases e
    exact(hc' j hj).1))
   have q1:w7.cell? ⟨gp,off+k*4+1,none⟩=some (.int .u8 (po:Int)):=by
    obtain⟨b,off',e,_,hc'⟩:=HI.out w7 hA7.below (by omega)
    cases e
    have:=(hc' k hkl).2.1
    rw [HPk.out] at this
    exact this
   have q0:w7.cell? ⟨gp,off+k*4,none⟩=some (.int .u8 (pk:Int)):=by
    obtain⟨b,off',e,_,hc'⟩:=HI.out w7 hA7.below (by omega)
    cases e
    have:=(hc' k hkl).1
    rw [HPk.out] at this
    exact this
   clear hb2 hA7 g1 HM6 HQ6
   go_upto_region 17 with fail
   go_cut [94] (fun cv wx=>cv=.bool b2∧wx=w7)
   case first =>
    by_cases hk0:0 < k
    ·obtain⟨j,hj⟩:∃j,po % k=j:=⟨_,rfl⟩
     have hjk:j < k:=by rw [← hj];exact Nat.mod_lt _ hk0
     have hmk:Int.tmod (po:Int) (k:Int)=(j:Int):=by rw [← hj];exact tmod_nat po k
     have qj:=HQ7.out j (by omega)
     obtain⟨mj,hmj⟩:∃mj,(f j).k % 10=mj:=⟨_,rfl⟩
     obtain⟨fj,hfj⟩:∃fj,(f j).k=fj:=⟨_,rfl⟩
     have hmo:Int.tmod (fj:Int) 10=(mj:Int):=by rw [← hmj,hfj];exact tmod_nat fj 10
     rw [hfj] at qj
     have gA:decide (0 < k)=true:=by simpa using hk0
     have gA2:decide ((0:Int) < (k:Int))=true:=by simp;omega
     have hk1:¬(k:Int)=0:=by omega
     have hjn:(j:Int) < (n:Int):=by omega
     by_cases hm2:mj < 2
     ·have gB:decide (mj < 2)=true:=by simpa using hm2
      have gB2:decide ((mj:Int) < 2)=true:=by simp;omega
      have HR:=Lib.hid (decide_eq_true (p:=0 < k∧(f (po % k)).k % 10 < 2) ⟨hk0,by rw [hj,hmj];exact hm2⟩)
      clear hm2 hj hmj hfj
      go_wp2_with fail
      go_meet
      exact⟨by rw [← HB2.out,HR.out],rfl⟩
     ·have gB:decide (mj < 2)=false:=by simpa using hm2
      have gB2:decide ((mj:Int) < 2)=false:=by simp;omega
      have HR:=Lib.hid (decide_eq_false (p:=0 < k∧(f (po % k)).k % 10 < 2) (fun q=>hm2 (by have:=q.2;rw [hj,hmj] at this;exact this)))
      clear hm2 hj hmj hfj
      go_wp2_with fail
      go_meet
      exact⟨by rw [← HB2.out,HR.out],rfl⟩
    ·have gA:decide (0 < k)=false:=by simpa using hk0
     have gA2:decide ((0:Int) < (k:Int))=false:=by simp;omega
     have HR:=Lib.hid (decide_eq_false (p:=0 < k∧(f (po % k)).k % 10 < 2) (fun q=>hk0 q.1))
     clear hk0
     go_wp2_with fail
     go_meet
     exact⟨by rw [← HB2.out,HR.out],rfl⟩
   case rest =>
   obtain⟨rfl,hw⟩:=hcut
   rw [hw]
   clear hw
   go_upto_if 94 with fail
   go_cut [12] (fun iv wx=>∃q,(q=1∨q∈L)∧iv=.int .i64 (S.hd q)∧wx=w7)
   case first =>
    cases b2 with
    | true =>
     obtain⟨hk0,_⟩:=of_decide_eq_true HB2.out
     obtain⟨j,hj⟩:∃j,po % k=j:=⟨_,rfl⟩
     have hjk:j < k:=by rw [← hj];exact Nat.mod_lt _ hk0
     have hmk:Int.tmod (po:Int) (k:Int)=(j:Int):=by rw [← hj];exact tmod_nat po k
     have hk1:¬(k:Int)=0:=by omega
     have hjL:j < L.length:=by rw [HLl.out];exact hjk
     obtain⟨q,hq⟩:∃q,L[j]? = some q:=⟨_,List.getElem?_eq_getElem hjL⟩
     have hol:Own w7 3 1 (.slice la L.length lc) L.length (hdC S L):=HA7.out.tail.head
     obtain⟨vg,e,_,hvc,ck⟩:=hdC_get (B:=0) hol hq
     subst e
     have hjL2:(j:Int) < (L.length:Int):=by omega
     have HQm:=Lib.hid (List.mem_of_getElem? hq)
     clear hol hq hj
     go_wp2_with fail
     go_meet
     exact⟨q,.inr HQm.out,rfl,rfl⟩
    | false =>
     have HH:=Lib.hid (show hb=S.hd 1 from by rw [← HHb.out];exact(HD.out.hd 1).symm)
     go_wp2_with fail
     go_meet
     exact⟨1,.inl rfl,by rw [HH.out],rfl⟩
   case rest =>
   obtain⟨q,hq,rfl,hw⟩:=hcut
   rw [hw]
   clear hw HB2 b2
   obtain⟨nq,hnq,hkq⟩:=HD.out.parent hq
   have hqs:=HD.out.ne rfl hq
   obtain⟨mq,hmq,hmk,_⟩:=nI_to (S':=S1) (S:=S) ((G1.out.nI q).trans (if_neg hqs)) hnq
   obtain⟨ms,hms,hmsk,_⟩:=nI_some ((G1.out.nI S.slots.length).trans (if_pos rfl))
   have hdq:=HD.out.dep q
   have HI7:=Lib.hid (ins_all HA7.out G1.out.ok q S.slots.length mq ms hmq hms G1.out.kid G1.out.det hqs (.inl ⟨hmk.trans hkq,by rw [hmsk];decide⟩) (by rw [dadd_ne hqs];omega))
   rw [G1.out.hd,G1.out.hd] at HI7
   have HQq:=Lib.hid hq
   clear hnq hkq hqs hmq hmk hms hmsk hdq hq q0 q1 HQ7
   generalize hsl:S.slots.length=s at *
   have HSl:=Lib.hid hsl
   go_wp2_with fail
   refine HI7.out.mono ?_
   rintro e w8 ⟨S2,sv2,fv2,v3,rfl,hA8,g2⟩
   have hD8:=HD.out.elem HSl.out (by omega) HQq.out G1.out g2
   have HD8:=Lib.hid hD8
   have hA8b:=hA8.alloc (.cells #[.int .i64 (S.hd s)] 3)
   have HA8:=Lib.hid hA8b
   have HWx:=Lib.hid (own_at (n:=1) (size:=1) (Blk.new w8 [.int .i64 (S.hd s)] 3) rfl (by omega))
   have HHd:=Lib.hid (fun x=>(g2.hd x).trans (G1.out.hd x))
   have hLb:L.length≤100:=by rw [HLl.out];omega
   have HS2l:=Lib.hid (show S2.slots.length=s+1 from by rw [g2.len,G1.out.len])
   clear hA8 hA8b hD8 g2 HI7 HA7 hsl
   go_wp2_with (at_builtin;refine wpList_append_all etI [trO R S2 sv2 fv2] HA8.out HWx.out (by intro u hu;simp at hu;subst hu;rfl) (by omega) (by omega) rfl _ _ rfl rfl rfl ?_)
   intro v' w9 hA9
   obtain⟨la',lc',rfl⟩:=own_shape (show Own w9 3 1 v' _ _ from hA9.tail.head)
   have hrow:hdC S L ++ [.int .i64 (S.hd s)]=hdC S2 (L ++ [s]):=by
    rw [← hdC_app,hdC_eq HHd.out L]
    simp [hdC,HHd.out]
   rw [hrow] at hA9
   have HA9:=Lib.hid hA9
   have q0:w9.cell? ⟨gp,off+k*4,none⟩=some (.int .u8 (pk:Int)):=by
    obtain⟨b,off',e,_,hc'⟩:=HI.out w9 hA9.below (by omega)
    cases e
    have:=(hc' k hkl).1
    rw [HPk.out] at this
    exact this
   clear hA9 hrow HA8 HWx
   by_cases hm3:m=3
   ·have gA:((m:Int) == 3)=true:=by simp [hm3]
    have HM9:=Lib.hid (make_tx HA9.out (HL.out _ HA9.out.below) HD8.out.ok.ok HD8.out.ok.fr (by rw [HS2l.out];omega) (s+1) HS2l.out [116,10,117] (by decide) (by decide))
    clear hm3
    go_wp2_with fail
    refine HM9.out.mono ?_
    rintro e w10 ⟨S3,sv3,fv3,rfl,hA10,g3⟩
    have hs1:s≠s+1:=by omega
    obtain⟨ns,hns,hks⟩:=HD8.out.el s (by simp)
    obtain⟨m3,hm3,hmk3,_⟩:=nI_to (S':=S3) (S:=S2) ((g3.nI s).trans (if_neg hs1)) hns
    obtain⟨mt,hmt,hmtk,_⟩:=nI_some ((g3.nI (s+1)).trans (if_pos rfl))
    have hds:=HD8.out.dep s
    rw [HS2l.out] at hds
    have HI10:=Lib.hid (ins_all hA10 g3.ok s (s+1) m3 mt hm3 hmt g3.kid g3.det hs1 (.inl ⟨hmk3.trans hks,by rw [hmtk];decide⟩) (by rw [dadd_ne hs1];omega))
    rw [g3.hd,g3.hd,HHd.out s] at HI10
    have G3:=Lib.hid g3
    clear hA10 g3 hns hks hm3 hmk3 hmt hmtk hds hs1 HM9 HA9
    go_wp2_with fail
    refine HI10.out.mono ?_
    rintro e w11 ⟨S4,sv4,fv4,v4,rfl,hA11,g4⟩
    have hD4:=HD8.out.text HS2l.out (by omega) (.inr (by simp)) G3.out g4
    have HD4:=Lib.hid hD4
    have hrow:hdC S2 (L ++ [s])=hdC S4 (L ++ [s]):=(hdC_eq (fun x=>(g4.hd x).trans (G3.out.hd x)) _).symm
    rw [hrow] at hA11
    have HA11:=Lib.hid hA11
    have hll:(L ++ [s]).length=L.length+1:=by simp
    have HLL:=Lib.hid hll
    clear hA11 g4 hD4 hrow HI10 hll
    go_wp2_with fail
    go_roundw
    case rel=>exact⟨k+1,S4,sv4,fv4,_,_,L ++ [s],by omega,by go_num,by rw [HLL.out];exact HA11.out,HD4.out.up (by omega),by rw [HLL.out,HLl.out]⟩
    case measure=>simp [intOf];omega
   ·have gA:((m:Int) == 3)=false:=by simp;omega
    have hll:(L ++ [s]).length=L.length+1:=by simp
    have HLL:=Lib.hid hll
    clear hm3 hll
    go_wp2_with fail
    go_roundw
    case rel=>exact⟨k+1,S2,sv2,fv2,_,_,L ++ [s],by omega,by go_num,by rw [HLL.out];exact HA9.out,HD8.out.up (by omega),by rw [HLL.out,HLl.out]⟩
    case measure=>simp [intOf];omega
  ·obtain rfl:k=n:=by omega
   have HDD:=Lib.hid (And.intro HD.out HLl.out)
   clear hA
   go_wp2_with fail
   go_ret2
   exact⟨R,S,sv,fv,K,d,L,_,rfl,HA.out,HDD.out.1,HDD.out.2⟩
end Go.Proofs.YtacdbnhnhdlmpaaGreatDoor.W
end
section
namespace Go.Proofs.YtacdbnhnhdlmpaaGreatDoor.W
open Go.RowKit
attribute [local go_sem] Oper.semAt_some
def WkCl (R l b N:Nat)(S:Tr)(K:Nat→List Nat)(w0:World)(J Jx:List Nat→World→Prop)(f i:Nat):Prop :=
 ∀m pre W,WkI b w0 W→J pre W→pre.length+(wlk K f i).length≤N →
  CallsIn Fence.wide m Tryz.prog 137 #[.pointer (some ⟨R,0,none⟩),.int .i64 (S.hd i),.func (.yield l) #[] #[]] W fun e W' =>
   (e=.returned (.bool true)∧J (pre ++ wlk K f i) W'∧KpS b W W')∨(e=.returned (.bool false)∧∃q,Jx q W')
theorem walkL_step {B R g cap N l b:Nat}{S:Tr}{fv:Value}{w0:World}{K:Nat→List Nat}{d:Nat→Nat}(h0:TAt B R S (.slice (some ⟨g,0,none⟩) S.slots.length cap) fv w0)(hL:Lk S K d){J Jx:List Nat→World→Prop}
  (hJ:∀s W W',J s W→Below W.heap.size W W'→J s W')
  (hY:∀m pre x W,(S.at x).isSome=true→J pre W→pre.length < N→YieldAt Fence.wide m Tryz.prog l #[.int .i64 (S.hd x)] W fun e W'=>(e=.returned (.bool true)∧J (pre ++ [x]) W'∧KpS b W W')∨(e=.returned (.bool false)∧Jx (pre ++ [x]) W'))
  (f i:Nat)(n:Nd)(hi:S.at i=some n)(hw:wlk K f i=i :: (K i).flatMap (wlk K (f - 1)))(ih:∀k∈K i,WkCl R l b N S K w0 J Jx (f - 1) k):WkCl R l b N S K w0 J Jx f i:=by
 intro m pre W hI hj hN
 rw [hw] at hN ⊢
 obtain⟨fn,tmps,assign,body,hy,hR⟩:=hY (m - 1) pre i W (by rw [hi];rfl) hj (by simp at hN;omega)
 have HIH:=Lib.hid ih
 have HI:=Lib.hid hI
 have HJ:=Lib.hid hJ
 have hkl:=kids_len hL i
 clear ih hY hI hj hJ hw
 refine callsIn_of_wp Tryz.func137 rfl trivial ?_ rfl
 simp only [Tryz.ntmps137,List.size_toArray,List.length_cons,List.length_nil,Nat.reduceAdd,Nat.reduceSub,Array.replicate_succ,Array.replicate_zero,List.push_toArray,List.append_toArray,List.nil_append,List.cons_append]
 gi_wp2
 refine⟨fun h=>(by cases h),?_⟩
 refine hR.mono ?_
 rintro e W1 (⟨rfl,hj1,hk1⟩ | ⟨rfl,hx1⟩)
 ·have HI1:=Lib.hid (HI.out.kp hk1)
  have HK:=Lib.hid (kids_any (h0.wki HI1.out) hL i n hi)
  have HJ1:=Lib.hid hj1
  have HK1:=Lib.hid hk1
  clear hy hR hj1 hk1
  gi_wp2
  refine⟨trivial,fun h=>(by cases h),(callsIn_wide.2 HK.out).mono ?_⟩
  rintro e W2 ⟨v,rfl,ho,hb2⟩
  obtain⟨va,vc,rfl⟩:=own_shapeB ho
  have hb:=HI1.out.bx.2
  have k2:=KpS.below hb hb2
  have HO:=Lib.hid ho
  have hI2:=HI1.out.kp k2
  have HS:=Lib.hid (show WkL S b K (f - 1) i w0 W pre J (.slice va (K i).length vc) (.int .i64 0) W2 from⟨0,W1.heap.size,by omega,rfl,by simpa using HJ.out _ _ _ HJ1.out hb2,HK1.out.trans k2,hI2,ho,fun k hk=>by
   have h1:=(ho.lt k hk).1
   refine⟨by omega,fun e=>?_⟩
   rw [slB_below hb hb2] at e
   have:=(HI1.out.lo k e).2
   omega⟩)
  clear ho hb2 k2 hI2 HK
  gi_wp2
  gi_loopw [17] (fun jv wr=>WkL S b K (f - 1) i w0 W pre J (.slice va (K i).length vc) jv wr) (fun jv _=>(K i).length - (intOf jv).toNat)
  case atStart=>exact HS.out
  case round =>
   obtain⟨j,B2,hjl,rfl,hjj,hkk,hii,hoo,hne⟩:=hrel
   have HOo:=Lib.hid hoo
   have HJj:=Lib.hid hjj
   have HKk:=Lib.hid hkk
   have HIi:=Lib.hid hii
   have HNe:=Lib.hid hne
   clear hjj hkk hii hne
   by_cases hlt:j < (K i).length
   ·obtain⟨k,hk⟩:∃k,(K i)[j]? = some k:=⟨_,List.getElem?_eq_getElem hlt⟩
    obtain⟨gv,cp2,hv,hc⟩:=own_int hoo (x:=S.hd k) (by rw [List.getElem?_map,hk];rfl)
    cases hv
    have hcg:=World.block_lt_of_cell? wr ⟨gv,j,none⟩ hc
    have HC:=Lib.hid (HIH.out k (List.mem_of_getElem? hk) (m - 1) (pre ++ [i] ++ ((K i).take j).flatMap (wlk K (f - 1))) wr HIi.out HJj.out (by
     have e:=flatMap_take_succ hk (wlk K (f - 1))
     have h2:(((K i).take (j+1)).flatMap (wlk K (f - 1))).length≤((K i).flatMap (wlk K (f - 1))).length:=by
      conv=>rhs;rw [← List.take_append_drop (j+1) (K i),List.flatMap_append]
      simp
     rw [e] at h2
     simp only [List.length_append,List.length_cons,List.length_nil] at h2 hN ⊢
     omega))
    have HE:=Lib.hid (flatMap_take_succ hk (wlk K (f - 1)))
    clear hoo hk
    gi_wp2
    refine⟨trivial,fun h=>(by cases h),HC.out.mono ?_⟩
    rintro e W3 (⟨rfl,hj3,hk3⟩ | ⟨rfl,q,hx3⟩)
    ·have HS3:=Lib.hid (show WkL S b K (f - 1) i w0 W pre J (.slice (some ⟨gv,0,none⟩) (K i).length vc) (.int .i64 ((j+1:Nat):Int)) W3 from⟨j+1,B2,by omega,rfl,by rw [HE.out];rw [List.append_assoc] at hj3;exact hj3,HKk.out.trans hk3,HIi.out.kp hk3,own_kB HOo.out (fun g hg=>by
      obtain⟨cur,hcur⟩:=own_ty HOo.out hg
      exact(hk3.kept g _ _ _ hcur (HNe.out g hg).1 (HNe.out g hg).2).trans hcur.symm),fun g hg=>⟨(HNe.out g hg).1,fun e=>by
       rcases hk3.sl with e2 | e2
       ·exact(HNe.out g hg).2 (e2 ▸ e)
       ·have:=(e2 g e).1;have:=(HOo.out.lt g hg).2;omega⟩⟩)
     clear hj3 hk3
     gi_wp2
     go_roundw
     case rel=>exact HS3.out
     case measure=>simp [intOf];omega
    ·have HX:=Lib.hid hx3
     clear hx3
     gi_wp2
     go_ret
     exact .inr ⟨rfl,_,HX.out⟩
   ·obtain rfl:j=(K i).length:=by omega
    rw [List.take_length] at HJj
    clear hoo
    gi_wp2
    go_ret
    refine .inl ⟨rfl,?_,HKk.out⟩
    have:=HJj.out
    rw [List.append_assoc] at this
    exact this
 ·have HX:=Lib.hid hx1
  clear hy hR hx1
  gi_wp2
  go_ret
  exact .inr ⟨rfl,_,HX.out⟩
theorem walkL_in {B R g cap N l b:Nat}{S:Tr}{fv:Value}{w0:World}{K:Nat→List Nat}{d:Nat→Nat}(h0:TAt B R S (.slice (some ⟨g,0,none⟩) S.slots.length cap) fv w0)(hL:Lk S K d){J Jx:List Nat→World→Prop}
  (hJ:∀s W W',J s W→Below W.heap.size W W'→J s W')
  (hY:∀m pre x W,(S.at x).isSome=true→J pre W→pre.length < N→YieldAt Fence.wide m Tryz.prog l #[.int .i64 (S.hd x)] W fun e W'=>(e=.returned (.bool true)∧J (pre ++ [x]) W'∧KpS b W W')∨(e=.returned (.bool false)∧Jx (pre ++ [x]) W')) :
  ∀(f i:Nat) (n:Nd),S.at i=some n→128 - d i=f→WkCl R l b N S K w0 J Jx f i:=by
 intro f
 induction f with
 | zero =>
  intro i n hi hf
  have hK:K i=[]:=by
   cases e:K i with
   | nil=>rfl
   | cons k t =>
    have h1:=hL.dep i k (by rw [e];simp)
    have h2:=hL.low k
    omega
  exact walkL_step h0 hL hJ hY 0 i n hi (by rw [hK];rfl) (fun k hk=>by rw [hK] at hk;cases hk)
 | succ f ih =>
  intro i n hi hf
  refine walkL_step h0 hL hJ hY (f+1) i n hi rfl (fun k hk=>?_)
  obtain⟨j,hj⟩:=List.mem_iff_getElem?.1 hk
  obtain⟨nk,hnk⟩:=hL.some hj
  have hdk:=hL.dep i k hk
  have hlow:=hL.low k
  exact ih k nk hnk (by omega)
theorem walk1_l {B R g cap b i Bs Bh n:Nat}{S:Tr}{fv:Value}{w0 w:World}{K:Nat→List Nat}{d:Nat→Nat}(h0:TAt B R S (.slice (some ⟨g,0,none⟩) S.slots.length cap) fv w0)(hL:Lk S K d)(nd:Nd)(hi:S.at i=some nd)
  (hI:WkI b w0 w)(hBs:Blk w Bs [.pointer (some ⟨R,0,none⟩)] 25)(hBh:Blk w Bh [.int .i64 (S.hd i)] 3) :
  SeqStopsK Fence.wide n Tryz.prog 136 #[.pointer (some ⟨Bs,0,none⟩),.pointer (some ⟨Bh,0,none⟩)] (fun x:Sl S=>#[Value.int .i64 (S.hd x.1)]) (KpS b) (fun ys=>ys.map (·.1)=wlk K (128 - d i) i) (fun _=>True) (wlk K (128 - d i) i).length w:=by
 intro l J Jx W hW hJ hJx hY hj
 have hbl:=hI.bx.2
 have hIW:=hI.kp (KpS.below hbl hW)
 have hlW:b < W.heap.size:=hIW.bx.2
 have hix:S.ix (S.hd i)=some i:=hd_ix hL hi
 have HAt:=Lib.hid (at_some (h0.wki hIW) (S.hd i) (hd_ok hL hi).1 hix)
 have c0:=(hBs.below hW).cell 0
 have c1:=(hBh.below hW).cell 0
 simp only [List.getElem?_cons_zero] at c0 c1
 have HW:=Lib.hid (fun W1 (hb:Below W.heap.size W W1)=>walkL_in (b:=b) (N:=(wlk K (128 - d i) i).length) (l:=l) (J:=fun s W=>∃s':List (Sl S),s'.map (·.1)=s∧J s' W) (Jx:=fun s W=>∃s':List (Sl S),s'.map (·.1)=s∧Jx s' W) h0 hL (fun s W W' hs hb=>by
  obtain⟨s',e,hs⟩:=hs
  exact⟨s',e,hJ s' W W' none hs (grown_of_below hb) (fun r e=>by cases e)⟩) (fun m pre x W hx hp hl=>by
  obtain⟨s',e,hs⟩:=hp
  refine yield_mono (yield_any m (hY s' ⟨x,hx⟩ W hs (by rw [← e,List.length_map] at hl;exact hl))) ?_
  rintro e2 W2 (⟨h1,h2,h3⟩ | ⟨h1,h2⟩)
  ·exact .inl ⟨h1,⟨s' ++ [⟨x,hx⟩],by rw [List.map_append,e];rfl,h2⟩,h3⟩
  ·exact .inr ⟨h1,_,by rw [List.map_append,e];rfl,h2⟩) (128 - d i) i nd hi rfl (n - 1) [] W1 (hIW.kp (KpS.below hlW hb)) ⟨[],rfl,hJ _ _ _ none hj (grown_of_below hb) (fun r e=>by cases e)⟩ (by simp))
 have HBs:=Lib.hid (hBs.below hW)
 have HBh:=Lib.hid (hBh.below hW)
 clear hY hj hJ hJx hI hIW hBs hBh
 refine callsIn_of_wp Tryz.func136 rfl trivial ?_ rfl
 simp only [Tryz.ntmps136,List.size_toArray,List.length_cons,List.length_nil,Nat.reduceAdd,Nat.reduceSub,Array.replicate_succ,Array.replicate_zero,List.push_toArray,List.append_toArray,List.nil_append,List.cons_append]
 gi_wp2
 refine⟨trivial,fun h=>(by cases h),(callsIn_wide.2 HAt.out).mono ?_⟩
 rintro e W1 ⟨rfl,hb1⟩
 have HW1:=Lib.hid (HW.out W1 hb1)
 have d0:=(HBs.out.below hb1).cell 0
 have d1:=(HBh.out.below hb1).cell 0
 simp only [List.getElem?_cons_zero] at d0 d1
 clear hb1 c0 c1 HW
 gi_wp2
 refine⟨trivial,fun h=>(by cases h),HW1.out.mono ?_⟩
 rintro e W2 (⟨rfl,hj2,hk2⟩ | ⟨rfl,q,hx2⟩)
 ·have HJ2:=Lib.hid hj2
  clear hj2 hk2
  gi_wp2
  go_end0
  obtain⟨s',e,h⟩:=HJ2.out
  exact⟨⟨_,rfl⟩,.inl ⟨s',by simpa using e,h⟩⟩
 ·have HX:=Lib.hid hx2
  clear hx2
  gi_wp2
  go_end0
  obtain⟨s',e,h⟩:=HX.out
  exact⟨⟨_,rfl⟩,.inr ⟨s',trivial,h⟩⟩
end Go.Proofs.YtacdbnhnhdlmpaaGreatDoor.W
end
section
namespace Go.Proofs.YtacdbnhnhdlmpaaGreatDoor.W.RZ
open Go
open Go.Proofs.YtacdbnhnhdlmpaaGreatDoor.W
section
variable {P : Program} {ops : Array Oper} {L : Pl} {md : Region.Mode} {m n0 : Nat} {Q : Array Bool → List Value → List Ob → Act → Prop} {F : Go.Fence}
theorem wpAnyIn_of_any4F (hF:∀f,F.fn f)(hD:Option.isSome F.depth=false)(hcal:∀f args w R,Calls P f args w R→CallsIn F (n0 - 1) P f args w R)(hnd:∀(j:Nat) (o:Oper),ops[j]? = some o→∀c,o.op≠.defer c){t:Nat}{Q':Exit→Act→World→Prop}(hS:∀k X w,L.C k X w→L.S w)(hM:∀k X w cs ty,L.C k X w→L.C k (bk w.heap.size cs ty :: X) (w.alloc (.cells cs.toArray ty)))
  (hQ:∀listed k X a w,L.C k X w→Q listed k X a→wpAnyIn F n0 P md ops Q' t listed a w) :
  ∀(n:Nat) (listed:Array Bool) (k:List Value) (X:List Ob) (a:Act) (w:World),L.C k X w→any4 P ops L md m Q n listed k X a→wpAnyIn F n0 P md ops Q' (n+t) listed a w:=by
 intro n
 induction n with
 | zero=>intro listed k X a w hw h;rw [Nat.zero_add];exact hQ _ _ _ _ _ hw h.2
 | succ n ih =>
  intro listed k X a w hw h
  rw [show n+1+t=(n+t)+1 by omega]
  refine⟨fun e=>absurd e h.1,fun i hi=>?_⟩
  obtain⟨_,o,ho,_⟩:=mem_ready.1 hi
  obtain⟨hok,hn⟩:=(h.2 i hi).2 o ho
  unfold wpOpIn
  simp only [ho]
  cases hwt:Region.wanted o (yielded ops a.tmps) with
  | false =>
   simp only [Bool.false_eq_true,if_false]
   exact⟨fun f _=>hF f,ih _ _ _ _ _ hw (hn k [] undef (.inl ⟨hwt,rfl,rfl,rfl⟩))⟩
  | true =>
   simp only [if_true]
   obtain⟨o1,o2,o3⟩:=hok hwt
   unfold Oper.wpIn
   refine⟨fun f _=>hF f,?_⟩
   rw [Oper.semAt_plain F _ _ (hnd i o ho)]
   rcases kind_three o with e | e | e
   ·obtain⟨v,hv⟩:=o1 e
    have hk:=hn k [] v (.inr ⟨hwt,.inl ⟨e,hv,rfl,rfl⟩⟩)
    rcases hv w (hS _ _ _ hw) with r | ⟨r,rfl⟩
    ·rw [r];exact ih _ _ _ _ _ hw hk
    ·rw [r];exact ih _ _ _ _ _ hw hk
   ·rcases(o2 e).2 X w (fun _ h=>h) hw with ⟨f,args,r,hc⟩ | ⟨v,w',r,hv,hw'⟩ | ⟨w',r,hv,hw'⟩
    ·rw [r]
     refine⟨fun h=>(by rw [hD] at h;cases h),CallsIn.mono (hcal _ _ _ _ hc) ?_⟩
     rintro e2 w' ⟨v,rfl,hv,hw'⟩
     exact ih _ _ _ _ _ hw' (hn (v :: k) [] v (.inr ⟨hwt,.inr (.inl ⟨e,hv,rfl,rfl⟩)⟩))
    ·rw [r]
     exact ih _ _ _ _ _ hw' (hn (v :: k) [] v (.inr ⟨hwt,.inr (.inl ⟨e,hv,rfl,rfl⟩)⟩))
    ·rw [r]
     exact ih _ _ _ _ _ hw' (hn (undef :: k) [] undef (.inr ⟨hwt,.inr (.inl ⟨e,hv,rfl,rfl⟩)⟩))
   ·have r:=o3 e w
    have hk:=hn k [bk w.heap.size (L.cs i) (L.ty i)] (L.made i w.heap.size) (.inr ⟨hwt,.inr (.inr ⟨e,rfl,w.heap.size,rfl,rfl⟩)⟩)
    rw [r]
    exact ih _ _ _ _ _ (hM _ _ _ _ _ hw) hk
theorem wpAnyIn_tailF (hF:∀f,F.fn f){Q':Exit→Act→World→Prop}:∀(l:List Oper) (k:Nat) (listed:Array Bool) (a:Act) (w:World),(∀j,l[j]? = ops[k+j]?)→tail4 md ops l.length k listed=true→wpListIn F n0 P ops Q' l a w→wpAnyIn F n0 P md ops Q' l.length listed a w
 | [],k,listed,a,w,hl,hB,h=>⟨by simpa [tail4] using hB,h⟩
 | o :: l,k,listed,a,w,hl,hB,h=>by
  have h0:ops[k]? = some o:=by simpa using (hl 0).symm
  simp only [List.length_cons,tail4,Bool.and_eq_true,beq_iff_eq] at hB
  obtain⟨hr,hB'⟩:=hB
  refine⟨fun e=>(by rw [hr] at e;cases e),fun i hi=>?_⟩
  rw [hr,List.mem_singleton] at hi
  subst hi
  unfold wpOpIn
  simp only [h0]
  have hrec:∀a' w',wpListIn F n0 P ops Q' l a' w'→wpAnyIn F n0 P md ops Q' l.length (listed.setIfInBounds i true) a' w':=fun a' w' h'=>wpAnyIn_tailF hF l (i+1) _ a' w' (fun j=>by have:=hl (j+1);simpa [Nat.add_assoc,Nat.add_comm 1 j] using this) hB' h'
  unfold wpListIn at h
  split
  ·rename_i hw
   rw [if_pos hw] at h
   exact Oper.wpIn_mono hrec h
  ·rename_i hw
   rw [if_neg hw] at h
   exact⟨h.1,hrec _ _ h.2⟩
def noDefer (o:Oper):Bool:=match o.op with | .defer _=>false | _=>true
theorem noDefer_of {o:Oper}(h:noDefer o=true)(c:Call):o.op≠.defer c:=fun e=>by
 unfold noDefer at h
 rw [e] at h
 cases h
theorem reg_mX {id:Nat}{Q':Exit→Act→World→Prop}{a:Act}{w:World}{l:List Oper}(L:Pl)(m:Nat)(hF:∀f,F.fn f)(hD:Option.isSome F.depth=false)(hcal:∀f args w R,Calls P f args w R→CallsIn F (n0 - 1) P f args w R)(hm:P.follows .mixedOrders=true)(hB:all4 .any l.toArray m (l.length - m)=true)(hnd:l.all noDefer=true)
  (hS:∀k X w,L.C k X w→L.S w)(hM:∀k X w cs ty,L.C k X w→L.C k (bk w.heap.size cs ty :: X) (w.alloc (.cells cs.toArray ty)))(hP:∀k X Y w,X.Perm Y→L.C k X w→L.C k Y w)(hC:L.C [] [] w.drew)
  (h:wp4 P l.toArray L (fun k X a'=>∀w',L.C k X w'→wpListIn F n0 P l.toArray Q' (l.drop m) a' w') 0 [] [] (l.take m) a):(Code.region id l.toArray true).wpIn F n0 P Q' a w:=by
 simp only [all4,Bool.and_eq_true,decide_eq_true_eq] at hB
 obtain⟨⟨⟨hs,hlx⟩,hb⟩,hsz⟩:=hB
 have hml:m≤l.length:=by simp at hsz;omega
 have htk:(l.take m).length=m:=by simp [hml]
 have hnd':∀(j:Nat) (o:Oper),l.toArray[j]? = some o→∀c,o.op≠.defer c:=fun j o ho=>by
  rw [List.all_eq_true] at hnd
  exact noDefer_of (hnd o (List.mem_of_getElem? (by simpa using ho)))
 refine wpIn_region_any hm ?_
 have h1:=any4_lex (P:=P) (L:=L) (md:=.any) (m:=m) (t:=l.length - m) (Q:=fun listed k X a'=>∀w',L.C k X w'→wpAnyIn F n0 P .any l.toArray Q' (l.length - m) listed a' w')
  (fun listed k X Y a hp hq w' hw'=>hq w' (hP _ _ _ _ hp.symm hw')) hs hb
  (fun listed k X a ht hq w' hw'=>by
   have:=wpAnyIn_tailF (P:=P) (md:=.any) (ops:=l.toArray) (n0:=n0) (Q':=Q') hF (l.drop m) m listed a w' (fun j=>by simp) (by simpa using ht) (hq w' hw')
   simpa using this)
  (l.take m) 0 (Array.replicate l.toArray.size false) [] [] a (by rw [htk];omega) (fun j hj=>by rw [List.getElem?_take];simp at hj ⊢;omega) (by simp) (by simp;intro j hj;simp [hj]) (by rw [htk];exact hlx) h
 have h2:=wpAnyIn_of_any4F (n0:=n0) (Q':=Q') hF hD hcal hnd' hS hM (fun listed k X a w' hw' hq=>hq w' hw') _ _ [] [] a _ hC h1
 have e:(l.take m).length+(l.length - m)=l.toArray.size:=by rw [htk];simp;omega
 rw [e] at h2
 exact h2
end
theorem calls_round {P:Program}{n l:Nat}(f:FuncId)(args:Array Value)(w:World)(R:Ending→World→Prop)(h:Calls P f args w R):CallsIn (Fence.wide.inRound l) n P f args w R:=(callsIn_wide (n:=n)).2 h
end Go.Proofs.YtacdbnhnhdlmpaaGreatDoor.W.RZ
end
section
namespace Go.Proofs.YtacdbnhnhdlmpaaGreatDoor.W
open Go.RowKit
def VWk:List Value→Value→Prop:=fun _ v=>∃m:Nat,v=.func (.func 136) #[] #[.pointer (some ⟨m,0,none⟩),.pointer (some ⟨m+1,0,none⟩)]
def FWk (R:Nat)(hd:Int)(B:Nat):List Value→World→Prop
 | [v],w'=>∀m:Nat,v=.func (.func 136) #[] #[.pointer (some ⟨m,0,none⟩),.pointer (some ⟨m+1,0,none⟩)]→B≤m∧Blk w' m [.pointer (some ⟨R,0,none⟩)] 25∧Blk w' (m+1) [.int .i64 hd] 3
 | _,_=>True
theorem fwk_below {R B:Nat}{hd:Int}(k:List Value)(w1 w2:World)(h:FWk R hd B k w1)(hb:Below w1.heap.size w1 w2):FWk R hd B k w2:=by
 match k,h with
 | [],_=>trivial
 | [v],h =>
  intro m e
  obtain⟨h1,h2,h3⟩:=h m e
  exact⟨h1,h2.below hb,h3.below hb⟩
 | _ :: _ :: _,_=>trivial
theorem reg_fX {P:Program}{n0 id lr:Nat}{Q':Exit→Act→World→Prop}{a:Act}{w:World}{l:List Oper}(F:List Value→World→Prop)(V:List Value→Value→Prop)(m:Nat)(hm:P.follows .mixedOrders=true)(hB:RZ.all4 .any l.toArray m (l.length - m)=true)(hnd:l.all RZ.noDefer=true)
  (hF:∀k w1 w2,F k w1→Below w1.heap.size w1 w2→F k w2)(h0:F [] w)
  (h:RZ.wp4 P l.toArray ⟨StB w,fun k X w'=>StB w w'∧F k w',V,fun _ _=>undef,fun _=>[],fun _=>0⟩ (fun k X a'=>∀w',StB w w'→F k w'→wpListIn (Fence.wide.inRound lr) n0 P l.toArray Q' (l.drop m) a' w') 0 [] [] (l.take m) a):(Code.region id l.toArray true).wpIn (Fence.wide.inRound lr) n0 P Q' a w :=
 RZ.reg_mX ⟨StB w,fun k X w'=>StB w w'∧F k w',V,fun _ _=>undef,fun _=>[],fun _=>0⟩ m (fun _=>trivial) rfl (fun f args w R h=>RZ.calls_round f args w R h) hm hB hnd (fun k X w' h=>h.1) (fun k X w' cs ty h=>⟨bthen h.1 ((Below.refl _ _).alloc (Nat.le_refl _) _),hF k _ _ h.2 ((Below.refl _ _).alloc (Nat.le_refl _) _)⟩) (fun k X Y w' hp h=>h) ⟨(Below.refl _ _).drew,hF [] _ _ h0 ((Below.refl _ _).drew)⟩ (by
  refine cast ?_ h
  congr 1
  funext k X a'
  exact propext ⟨fun g w' hw=>g w' hw.1 hw.2,fun g w' h1 h2=>g w' ⟨h1,h2⟩⟩)
def ColP (S:Tr)(p:Nat→Bool)(w:World)(pre:List (Sl S))(W:World):Prop :=
 ∃v,Blk W w.heap.size [v] 60∧W.ownsRow w.heap.size 3 1 v ((pre.map (fun y=>y.1)).filter p).length (hdC S ((pre.map (fun y=>y.1)).filter p))∧Below w.heap.size w W
theorem colP_own {S:Tr}{p:Nat→Bool}{w:World}{pre:List (Sl S)}{W W':World}{row:Option Nat}(hs:ColP S p w pre W)(hg:W.grownBy W' row)(hr:∀k,row=some k→w.heap.size≤k∧∃o:Obj,W.heap[k]? = some o∧o.isCells=false):ColP S p w pre W':=by
 obtain⟨v,hb,ho,hB⟩:=hs
 refine⟨v,blk_own hb hg hr,own_kB ho (fun k hk=>hg.block k (ho.lt k hk).2 (fun e=>?_)),hB.grown hg hB.size (fun k e=>by have:=(hr k e).1;omega)⟩
 obtain⟨_,o,h1,h2⟩:=hr k e.symm
 obtain⟨cur,hc⟩:=own_ty ho hk
 rw [hc] at h1;cases h1;cases h2
theorem colP_below {S:Tr}{p:Nat→Bool}{w:World}{pre:List (Sl S)}{W W':World}(hs:ColP S p w pre W)(hb:Below W.heap.size W W'):ColP S p w pre W':=by
 obtain⟨v,h1,ho,hB⟩:=hs
 exact⟨v,h1.below hb,own_keepB ho hb,hB.trans (hb.mono hB.size)⟩
theorem colP_lt {S:Tr}{p:Nat→Bool}{w:World}{pre:List (Sl S)}{W:World}(hs:ColP S p w pre W):w.heap.size < W.heap.size:=by
 obtain⟨v,h1,_,_⟩:=hs
 exact h1.lt
theorem colP_no {S:Tr}{p:Nat→Bool}{w:World}{pre:List (Sl S)}{x:Sl S}{W:World}(hs:ColP S p w pre W)(hx:p x.1=false):ColP S p w (pre ++ [x]) W:=by
 have e:((pre ++ [x]).map (fun y=>y.1)).filter p=(pre.map (fun y=>y.1)).filter p:=by
  rw [List.map_append,List.map_singleton,filter_snoc,if_neg (by rw [hx];simp)]
 unfold ColP at hs ⊢
 rw [e]
 exact hs
theorem colP_start {S:Tr}{p:Nat→Bool}{w W:World}(hb:Blk W w.heap.size [.slice none 0 0] 60)(hB:Below w.heap.size w W):ColP S p w [] W:=⟨.slice none 0 0,hb,World.ownsRow_nil _ _ _ _,hB⟩
theorem colP_wki {S:Tr}{p:Nat→Bool}{w:World}{pre:List (Sl S)}{W:World}(hs:ColP S p w pre W):WkI w.heap.size w W:=by
 obtain⟨v,h1,ho,hB⟩:=hs
 refine⟨hB.size,fun k cs t fr hk=>(hB.block k (hlt hk)).trans hk,fun k hk=>?_,Nat.le_refl _,h1.lt⟩
 have c:=h1.cell 0
 simp only [List.getElem?_cons_zero] at c
 unfold slB at hk
 rw [c] at hk
 exact ho.lt k hk
end Go.Proofs.YtacdbnhnhdlmpaaGreatDoor.W
end
