/- Texts joined: Do3 Do4 Do5. -/
import Derived.Test.YtfelmdkeaacfeaaGreatDoorTB1
import Derived.Test.YtfelmdkeaacfeaaGreatDoorTB34
set_option maxRecDepth 100000
set_option maxHeartbeats 40000000
set_option linter.unusedVariables false
set_option linter.unusedSimpArgs false
section
namespace Go.Proofs.YtfelmdkeaacfeaaGreatDoor.W
open Go.RowKit
theorem UC {ex:Prop}{E:Nat→Prop}{c x:Nat}{B:Nat}{w0 w:World}{l:List Ob}{g R Q:Nat}{hv sv fv nv:Value}{S:Tr}{K:Nat→List Nat}{d:Nat→Nat}{X:List MX}{σ : Nat→Nat}
  (hLd:Laid w)(h:All B w0 (kK g R Q hv (iZ S σ (ms X)) S sv fv nv X ++ l) w)(T:CX ex E c x S K d (ms X) σ)(hX:X.length≤600)(hx:x≤2000)(hce:ex→c≤60)(hc6:c≤200)(o:ou)(ho:o.Ok)(hk:o.k % 10=3) :
  Calls Tryz.prog 13 #[.pointer (some ⟨g,0,none⟩),.agg (opC o).toArray] w (E8 ex E c x B w0 l g R Q S K d (ms X) σ o):=by
 have hD:=uD h T hX hx ho
 obtain⟨Hs,hHs⟩:∃Hs,Hs=iZ S σ (ms X):=⟨_,rfl⟩
 rw [← hHs] at h
 have hHl:Hs.length=X.length:=by rw [hHs,jJ,aY]
 have hHp:0 < X.length:=hD.pos
 obtain⟨hva,hvc,hvv⟩:=aW (lL h)
 rw [hHl] at hvv
 subst hvv
 have HAl:=ae h
 have HT:=ae T
 have HO:=ae ho
 have HHs:=ae hHs
 have HHl:=ae hHl
 have HLd:=ae hLd
 have hbk:=bF h
 have g1:=hbk.cell 1
 have g2:=hbk.cell 2
 simp only [fQ,fP] at g1 g2
 have hgl:=hbk.lt
 have hgz:=hbk.free
 have hb1:=(ak w.heap.size w).alloc (au _) (.cells (opC o).toArray 39)
 have k1:=dD.new w (opC o) 39
 have hra:(o.a:Int) % (X.length:Int)=((o.iA X.length:Nat):Int):=rfl
 have hrb:(o.b:Int) % (X.length:Int)=((o.iB X.length:Nat):Int):=rfl
 have hrc:=ru o (n:=X.length) (by omega)
 have hrk:(o.k:Int) % 10=3:=by omega
 have hal:o.iA X.length < X.length:=jr _ hHp
 have hbl:o.iB X.length < X.length:=jr _ hHp
 have hn0:¬(X.length:Int)=0:=by omega
 have hn1:¬(X.length:Int)+1=0:=by omega
 have hoa:=ho.a
 have hob:=ho.b
 have hoc:=ho.c
 have hok:=ho.k
 have HHas:=ae (fun wx (hb:Below w.heap.size w wx) i (hi:i≤1000000)=>BV (h.still hb) i hi (by have:=hD.pos;omega))
 clear h T ho hHs hbk hLd
 simp only [opC] at k1 hb1 ⊢
 go_enter Tryz.func13,Tryz.ntmps13
 go_upto_region 2 with fail
 generalize w.alloc (.cells #[.int .u8 o.k,.int .u8 o.a,.int .u8 o.b,.int .u8 o.c,.string ⟨o.s.toArray⟩,.string ⟨o.t.toArray⟩,.int .i8 o.n,.int .i8 o.kk] 39)=w1 at *
 have hne:=gI w1
 have x1:=fun(x:dS (jc w1))=>(k1.below x.h).cell 1
 have x2:=fun(x:dS (jc w1))=>(k1.below x.h).cell 2
 have x3:=fun(x:dS (jc w1))=>(k1.below x.h).cell 3
 simp only [fQ,fP] at x1 x2 x3
 refine mW (fun _ _=>True) (fun _ _=>True) 20 (by kernel_rfl) (by kernel_rfl) (fun _ _ _ _ _=>trivial) trivial ?_
 simp only [mD,mr,l9,lZ]
 repeat (first
  | (refine RV.aN (by rfl) (by rfl) (fun K hK=>?_);go_big_quiet_step (fail);refine az ?_;refine hK.out _ ?_;clear hK K)
  | (refine RV.aK (by rfl) ?_;simp only [Act.put,dL,dK,dJ]))
 refine RV.eH ?_
 intro w2 hb2' _
 have HB2:=ae (aV hb1 hb2')
 have HK2:=ae (k1.below hb2')
 clear x1 x2 x3 hne hb1 hb2' k1 g1 g2 hHl
 rw [hra,hrb,hrc]
 have HA2:=ae (HAl.out.still HB2.out)
 have c0:=HK2.out.cell 0
 have g1:=(bF HA2.out).cell 1
 have g2:=(bF HA2.out).cell 2
 simp only [fQ,fP] at c0 g1 g2
 have hgl2:=(bF HA2.out).lt
 have hgz2:=(bF HA2.out).free
 have hxl2:=HK2.out.lt
 clear hgl hgz
 go_wp2_with fail
 refine(HHas.out w2 HB2.out _ (by omega)).mono ?_
 rintro e w3 ⟨rfl,hw⟩
 rw [hw]
 clear hw
 obtain⟨hd,hhd,hho,hcase⟩:=zI HT.out (i:=o.iA X.length) (by rw [aY];exact hal)
 rw [← HHs.out] at hhd
 obtain⟨gh,rfl,hghl,hgh⟩:=jk HA2.out HHl.out _ _ hhd
 have hai:(o.iA X.length:Int) < (X.length:Int):=by omega
 obtain⟨hdb,hhdb,hhob,hcaseb⟩:=zI HT.out (i:=o.iB X.length) (by rw [aY];exact hbl)
 rw [← HHs.out] at hhdb
 obtain⟨gh2,e2,_,hghb⟩:=jk HA2.out HHl.out _ _ hhdb
 cases e2
 have hbi:(o.iB X.length:Int) < (X.length:Int):=by omega
 have hic:nI (pI (o.iC X.length)):=by
  cases e:o.iC X.length with
  | none=>exact⟨by show(-100000:Int)≤-1;omega,by show(-1:Int)≤100000;omega⟩
  | some q=>have:=Tq e;exact⟨by show(-100000:Int)≤(q:Int);omega,by show(q:Int)≤100000;omega⟩
 have HHan:=ae (fun wx (hb:Below w2.heap.size w2 wx)=>ry ((bF HA2.out).below hb) (bH (lL HA2.out) hb) (by rw [HHl.out];omega) (pI (o.iC X.length)) hic.1 hic.2)
 rcases hcase with ⟨m,n,hm,hn,rfl⟩ | ⟨hm,rfl,hix⟩
 case inr =>
  rw [hm]
  rcases hcaseb with ⟨mb,nb,hmb,hnb,rfl⟩ | ⟨hmb,rfl,hixb⟩
  case inr =>
   go_upto_region 33 with fail
   have hne:=gI w2
   have y0:=fun(x:dS (jc w2))=>(bF (HA2.out.still x.h)).cell 0
   have y2:=fun(x:dS (jc w2))=>(bF (HA2.out.still x.h)).cell 2
   have y3:=fun(x:dS (jc w2))=>aU x.h hgh
   have y4:=fun(x:dS (jc w2))=>aU x.h hghb
   simp only [fQ,fP] at y0 y2
   refine mW (fun _ _=>True) (fun k v=>v=if k=[] then .int .i64 (hnd Hs (pI (o.iC X.length))) else .tuple #[.slice none 0 0,.int .i64 6]) 27 (by kernel_rfl) (by kernel_rfl) (fun _ _ _ _ _=>trivial) trivial ?_
   simp only [mD,mr,l9,lZ]
   repeat (first
    | (refine RV.aN (by rfl) (by rfl) (fun K hK=>?_);go_big_quiet_step (fail);refine az ?_;refine hK.out _ ?_;clear hK K)
    | (refine RV.aK (by rfl) ?_;simp only [Act.put,dL,dK,dJ]))
   refine RV.dM (by rfl) (by rfl) (fun w=>by go_simp;exact⟨rfl,rfl⟩) (⟨_,rfl⟩) (fun X wx hx=>?_) (fun v hv=>?_)
   ·refine(HHan.out _ hx.1).mono ?_
    rintro e wy ⟨rfl,hw⟩
    exact⟨_,rfl,rfl,by rw [hw];exact hx.1,trivial⟩
   have hv':v=.int .i64 (hnd Hs (pI (o.iC X.length))):=by simpa using hv
   clear hv
   subst hv'
   simp only [Act.put,dL,dK,dJ]
   repeat (first
    | (refine RV.aN (by rfl) (by rfl) (fun K hK=>?_);go_big_quiet_step (fail);refine az ?_;refine hK.out _ ?_;clear hK K)
    | (refine RV.aK (by rfl) ?_;simp only [Act.put,dL,dK,dJ]))
   refine RV.dM (by rfl) (by rfl) (fun w=>by go_simp;exact⟨rfl,rfl⟩) (⟨_,rfl⟩) (fun X wx hx=>?_) (fun v hv=>?_)
   ·refine(zH (jF (HA2.out.still hx.1)) (-1) (-1) _ hhob hixb).mono ?_
    rintro e wy ⟨rfl,hb⟩
    exact⟨_,rfl,by simp,aV hx.1 hb,trivial⟩
   have hv':v=.tuple #[.slice none 0 0,.int .i64 6]:=by simpa using hv
   clear hv
   subst hv'
   simp only [Act.put,dL,dK,dJ]
   repeat (first
    | (refine RV.aN (by rfl) (by rfl) (fun K hK=>?_);go_big_quiet_step (fail);refine az ?_;refine hK.out _ ?_;clear hK K)
    | (refine RV.aK (by rfl) ?_;simp only [Act.put,dL,dK,dJ]))
   refine RV.eH ?_
   intro w5 hb5 _
   have HA5:=ae (HA2.out.still hb5)
   clear y0 y2 y3 y4 hne hb5
   go_wp2_with fail
   go_ret2
   exact uC HT.out HA5.out HHs.out (by omega) (.inl (by rw [aY];exact hm)) (by omega)
  case inl =>
   obtain⟨gsl,csl,rfl⟩:=fO (jF HA2.out) (by have:=iy hnb;omega)
   go_upto_region 33 with fail
   have hne:=gI w2
   have y0:=fun(x:dS (jc w2))=>(bF (HA2.out.still x.h)).cell 0
   have y2:=fun(x:dS (jc w2))=>(bF (HA2.out.still x.h)).cell 2
   have y3:=fun(x:dS (jc w2))=>aU x.h hgh
   have y4:=fun(x:dS (jc w2))=>aU x.h hghb
   simp only [fQ,fP] at y0 y2
   refine mW (fun _ _=>True) (fun k v=>v=if k=[] then .int .i64 (hnd Hs (pI (o.iC X.length))) else .tuple #[.slice none 0 0,.int .i64 6]) 27 (by kernel_rfl) (by kernel_rfl) (fun _ _ _ _ _=>trivial) trivial ?_
   simp only [mD,mr,l9,lZ]
   repeat (first
    | (refine RV.aN (by rfl) (by rfl) (fun K hK=>?_);go_big_quiet_step (fail);refine az ?_;refine hK.out _ ?_;clear hK K)
    | (refine RV.aK (by rfl) ?_;simp only [Act.put,dL,dK,dJ]))
   refine RV.dM (by rfl) (by rfl) (fun w=>by go_simp;exact⟨rfl,rfl⟩) (⟨_,rfl⟩) (fun X wx hx=>?_) (fun v hv=>?_)
   ·refine(HHan.out _ hx.1).mono ?_
    rintro e wy ⟨rfl,hw⟩
    exact⟨_,rfl,rfl,by rw [hw];exact hx.1,trivial⟩
   have hv':v=.int .i64 (hnd Hs (pI (o.iC X.length))):=by simpa using hv
   clear hv
   subst hv'
   simp only [Act.put,dL,dK,dJ]
   repeat (first
    | (refine RV.aN (by rfl) (by rfl) (fun K hK=>?_);go_big_quiet_step (fail);refine az ?_;refine hK.out _ ?_;clear hK K)
    | (refine RV.aK (by rfl) ?_;simp only [Act.put,dL,dK,dJ]))
   refine RV.dM (by rfl) (by rfl) (fun w=>by go_simp;exact⟨rfl,rfl⟩) (⟨_,rfl⟩) (fun X wx hx=>?_) (fun v hv=>?_)
   ·refine(Hw (jF (HA2.out.still hx.1)) HT.out.ok.lk _ nb hnb (-1) _ hho hix).mono ?_
    rintro e wy ⟨rfl,hb⟩
    exact⟨_,rfl,by simp,aV hx.1 hb,trivial⟩
   have hv':v=.tuple #[.slice none 0 0,.int .i64 6]:=by simpa using hv
   clear hv
   subst hv'
   simp only [Act.put,dL,dK,dJ]
   repeat (first
    | (refine RV.aN (by rfl) (by rfl) (fun K hK=>?_);go_big_quiet_step (fail);refine az ?_;refine hK.out _ ?_;clear hK K)
    | (refine RV.aK (by rfl) ?_;simp only [Act.put,dL,dK,dJ]))
   refine RV.eH ?_
   intro w5 hb5 _
   have HA5:=ae (HA2.out.still hb5)
   clear y0 y2 y3 y4 hne hb5
   go_wp2_with fail
   go_ret2
   exact uC HT.out HA5.out HHs.out (by omega) (.inl (by rw [aY];exact hm)) (by omega)
 case inl =>
  rw [hm]
  go_wp2_with fail
  refine(HHas.out w2 HB2.out _ (by omega)).mono ?_
  rintro e w3 ⟨rfl,hw⟩
  rw [hw]
  clear hw
  rcases hcaseb with ⟨mb,nb,hmb,hnb,rfl⟩ | ⟨hmb,rfl,hixb⟩
  case inr =>
   rw [hmb]
   go_upto_region 33 with fail
   have hne:=gI w2
   have y0:=fun(x:dS (jc w2))=>(bF (HA2.out.still x.h)).cell 0
   have y2:=fun(x:dS (jc w2))=>(bF (HA2.out.still x.h)).cell 2
   have y3:=fun(x:dS (jc w2))=>aU x.h hgh
   have y4:=fun(x:dS (jc w2))=>aU x.h hghb
   simp only [fQ,fP] at y0 y2
   refine mW (fun _ _=>True) (fun k v=>v=if k=[] then .int .i64 (hnd Hs (pI (o.iC X.length))) else .tuple #[.slice none 0 0,.int .i64 6]) 27 (by kernel_rfl) (by kernel_rfl) (fun _ _ _ _ _=>trivial) trivial ?_
   simp only [mD,mr,l9,lZ]
   repeat (first
    | (refine RV.aN (by rfl) (by rfl) (fun K hK=>?_);go_big_quiet_step (fail);refine az ?_;refine hK.out _ ?_;clear hK K)
    | (refine RV.aK (by rfl) ?_;simp only [Act.put,dL,dK,dJ]))
   refine RV.dM (by rfl) (by rfl) (fun w=>by go_simp;exact⟨rfl,rfl⟩) (⟨_,rfl⟩) (fun X wx hx=>?_) (fun v hv=>?_)
   ·refine(HHan.out _ hx.1).mono ?_
    rintro e wy ⟨rfl,hw⟩
    exact⟨_,rfl,rfl,by rw [hw];exact hx.1,trivial⟩
   have hv':v=.int .i64 (hnd Hs (pI (o.iC X.length))):=by simpa using hv
   clear hv
   subst hv'
   simp only [Act.put,dL,dK,dJ]
   repeat (first
    | (refine RV.aN (by rfl) (by rfl) (fun K hK=>?_);go_big_quiet_step (fail);refine az ?_;refine hK.out _ ?_;clear hK K)
    | (refine RV.aK (by rfl) ?_;simp only [Act.put,dL,dK,dJ]))
   refine RV.dM (by rfl) (by rfl) (fun w=>by go_simp;exact⟨rfl,rfl⟩) (⟨_,rfl⟩) (fun X wx hx=>?_) (fun v hv=>?_)
   ·refine(zH (jF (HA2.out.still hx.1)) (-1) _ _ hhob hixb).mono ?_
    rintro e wy ⟨rfl,hb⟩
    exact⟨_,rfl,by simp,aV hx.1 hb,trivial⟩
   have hv':v=.tuple #[.slice none 0 0,.int .i64 6]:=by simpa using hv
   clear hv
   subst hv'
   simp only [Act.put,dL,dK,dJ]
   repeat (first
    | (refine RV.aN (by rfl) (by rfl) (fun K hK=>?_);go_big_quiet_step (fail);refine az ?_;refine hK.out _ ?_;clear hK K)
    | (refine RV.aK (by rfl) ?_;simp only [Act.put,dL,dK,dJ]))
   refine RV.eH ?_
   intro w5 hb5 _
   have HA5:=ae (HA2.out.still hb5)
   clear y0 y2 y3 y4 hne hb5
   go_wp2_with fail
   go_ret2
   exact uC HT.out HA5.out HHs.out (by omega) (.inr ⟨hk,.inl (by rw [aY];exact hmb)⟩) (by omega)
  case inl =>
   rw [hmb]
   cases hoc2:o.iC X.length with
   | none =>
    rw [hoc2] at HHan
    rw [show pI none=-1 from rfl] at HHan
    have hoM:∀q,(none:Option Nat)=some q→∃mq,lv (ms X) q=some mq:=fun q h=>by cases h
    have hoL:∀b,(none:Option Nat).map σ = some b→(S.at b).isSome=true:=fun b h=>by cases h
    have hHC:hnd Hs (-1)=hO S ((none:Option Nat).map σ):=rfl
    rw [show pI none=-1 from rfl]
    go_upto_region 33 with fail
    haveI hne:Nonempty (dS (Cj g R Q gh (o.iA X.length) (o.iB X.length) w.heap.size (.slice (some ⟨gh,0,none⟩) X.length hvc) (S.hd (σ (o.iA X.length))) (S.hd (σ (o.iB X.length))) o)):=⟨⟨w2,rJ HA2.out HK2.out hgh w2 (ak _ _),hghb⟩⟩
    have y0:=fun(x:dS (Cj g R Q gh (o.iA X.length) (o.iB X.length) w.heap.size (.slice (some ⟨gh,0,none⟩) X.length hvc) (S.hd (σ (o.iA X.length))) (S.hd (σ (o.iB X.length))) o))=>x.h.1.bk.cell 0
    have y2:=fun(x:dS (Cj g R Q gh (o.iA X.length) (o.iB X.length) w.heap.size (.slice (some ⟨gh,0,none⟩) X.length hvc) (S.hd (σ (o.iA X.length))) (S.hd (σ (o.iB X.length))) o))=>x.h.1.bk.cell 2
    have y3:=fun(x:dS (Cj g R Q gh (o.iA X.length) (o.iB X.length) w.heap.size (.slice (some ⟨gh,0,none⟩) X.length hvc) (S.hd (σ (o.iA X.length))) (S.hd (σ (o.iB X.length))) o))=>x.h.1.hc
    have y4:=fun(x:dS (Cj g R Q gh (o.iA X.length) (o.iB X.length) w.heap.size (.slice (some ⟨gh,0,none⟩) X.length hvc) (S.hd (σ (o.iA X.length))) (S.hd (σ (o.iB X.length))) o))=>x.h.2
    simp only [fQ,fP] at y0 y2
    refine qP (Cj g R Q gh (o.iA X.length) (o.iB X.length) w.heap.size (.slice (some ⟨gh,0,none⟩) X.length hvc) (S.hd (σ (o.iA X.length))) (S.hd (σ (o.iB X.length))) o) (Vm w2 (Ey B w0 l g R Q (.slice (some ⟨gh,0,none⟩) X.length hvc) Hs nv X w.heap.size o (JZ S K d (σ (o.iB X.length)) (σ (o.iA X.length)) ((none:Option Nat).map σ) nb n))) (fun k v=>if k=[] then v=.int .i64 (hnd Hs (-1)) else ∃v0 er,v=.tuple #[v0,.int .i64 er]) 27 (by kernel_rfl) (by kernel_rfl) (Td (fun w' h=>⟨rJ HA2.out HK2.out hgh w' h,aU h hghb⟩) (fun v w' h=>⟨Gi HHl.out hhd v w' h,Qx HHl.out hhdb v w' h⟩)) (Fp pq) (ak _ _) ?_
    simp only [mD,mr,l9,lZ]
    repeat (first
     | (refine RV.aN (by rfl) (by rfl) (fun K hK=>?_);go_big_quiet_step (fail);refine az ?_;refine hK.out _ ?_;clear hK K)
     | (refine RV.aK (by rfl) ?_;simp only [Act.put,dL,dK,dJ]))
    refine RV.dM (by rfl) (by rfl) (fun w=>by go_simp;exact⟨rfl,rfl⟩) (⟨_,rfl⟩) (fun X wx hx=>?_) (fun v hv=>?_)
    ·refine(HHan.out _ hx).mono ?_
     rintro e wy ⟨rfl,hw⟩
     exact⟨_,rfl,rfl,by rw [hw];exact hx⟩
    have hv':v=.int .i64 (hnd Hs (-1)):=by simpa using hv
    clear hv
    subst hv'
    simp only [Act.put,dL,dK,dJ]
    repeat (first
     | (refine RV.aN (by rfl) (by rfl) (fun K hK=>?_);go_big_quiet_step (fail);refine az ?_;refine hK.out _ ?_;clear hK K)
     | (refine RV.aK (by rfl) ?_;simp only [Act.put,dL,dK,dJ]))
    refine RV.dM (by rfl) (by rfl) (fun w=>by go_simp;exact⟨rfl,rfl⟩) (⟨_,by simp;exact⟨.slice none 0 0,0,rfl⟩⟩) (fun X wx hx=>?_) (fun v hv=>?_)
    ·rw [hHC]
     have hx2:Below w2.heap.size w2 wx:=hx
     have hA3:=HA2.out.still hx2
     have hk3:=HK2.out.below hx2
     have hT2:fZ 0 R S sv fv wx:=jF hA3
     have hcl:=II hT2 HT.out.ok.lk _ _ ((none:Option Nat).map σ) nb n hnb hn hoL
     refine hcl.mono ?_
     intro e wy hy
     obtain⟨v,rfl,hsh,hr⟩:=wG hA3 hk3 hy
     exact⟨v,rfl,by simpa using hsh,hr⟩
    have hv':∃v0 er,v=.tuple #[v0,.int .i64 er]:=by simpa using hv
    clear hv
    obtain⟨v,er,rfl⟩:=hv'
    simp only [Act.put,dL,dK,dJ]
    repeat (first
     | (refine RV.aN (by rfl) (by rfl) (fun K hK=>?_);go_big_quiet_step (fail);refine az ?_;refine hK.out _ ?_;clear hK K)
     | (refine RV.aK (by rfl) ?_;simp only [Act.put,dL,dK,dJ]))
    refine RV.eH ?_
    intro w5 hF
    obtain⟨S',sv',fv',v',ts,er',he,hres,hA5,hK5⟩:=hF
    simp only [gy,gK,iL,fG,iq,jX,je] at he
    obtain⟨rfl,rfl⟩:=he
    have HA5:=ae hA5
    have HK5:=ae hK5
    have HRes:=ae hres
    clear y0 y2 y3 y4 hne hA5 hK5 hres
    obtain⟨gm,capm,rfl⟩:=(lG HA5.out.tail).W.shape hHp
    have g1':=(bF HA5.out.tail).cell 1
    simp only [fQ,fP] at g1'
    have hgl5:=(bF HA5.out.tail).lt
    have hgz5:=(bF HA5.out.tail).free
    go_wp2_with fail
    refine(Jj (lG HA5.out.tail) (HT.out.tw.mw HT.out.ok.lk) hmb hm (none:Option Nat) hoM).mono ?_
    intro e w7 hy
    obtain⟨vm,rfl,⟨v2,en,rfl⟩,hF⟩:=wQ HA5.out HK5.out hy
    clear g1' hgl5 hgz5
    obtain⟨X',nv',v2',rs,en',he,hmr,hA7,ho7,_⟩:=hF
    simp only [gy,gK,iL,fG,iq,jX,je] at he
    obtain⟨rfl,rfl⟩:=he
    have HMr:=ae hmr
    have HA7:=ae hA7
    have HO7:=ae ho7
    obtain⟨v2a,v2c,rfl⟩:=aW ho7
    clear hmr ho7 hA7
    have hB:=JJ HT.out.ok HT.out.tw HT.out.cl hmb hm hnb hn hoM HRes.out HMr.out
    obtain⟨ts',hts,htl,hex,hmq⟩:=hB.I7
    obtain rfl:=qR hts
    have HB:=ae hB
    clear hB hts
    by_cases hee:er=en
    case neg =>
     have hd1:(er == en)=false:=by simpa using hee
     have hnx:¬ex:=fun h=>hee (hex h).1
     clear hex hmq
     go_wp2_with fail
     go_ret2
     exact ku HT.out HB.out HA7.out HHs.out (fun h=>absurd h hnx) (.ins m mb _ rs _ hk (by rw [aY];exact hm) (by rw [aY];exact hmb) (by rw [aY,hoc2];exact hoM) (by rw [aY,hoc2];exact HMr.out)) (by omega)
    have HMq:=ae (um HA7.out HHs.out (by rw [aY];omega) htl (hmq hee) HO7.out)
    have HEx:=ae hex
    subst hee
    clear hex hmq
    obtain⟨va7,vc7,hv7⟩:=aW (show Own w7 41 11 v ts.length (rows encR ts) from HA7.out.head)
    subst hv7
    go_wp2_with fail
    refine HMq.out.mono ?_
    rintro e w8 ⟨bq,rfl,hbq,hb8⟩
    have HA8:=ae (HA7.out.still hb8)
    have HBq:=ae hbq
    clear hb8 hbq
    go_wp2_with fail
    go_ret2
    exact ku HT.out HB.out HA8.out HHs.out (fun h=>⟨HBq.out (HEx.out h).2,(HEx.out h).2⟩) (.ins m mb _ rs _ hk (by rw [aY];exact hm) (by rw [aY];exact hmb) (by rw [aY,hoc2];exact hoM) (by rw [aY,hoc2];exact HMr.out)) (by omega)
   | some q =>
    have hq:=Tq hoc2
    rw [hoc2] at HHan
    rw [show pI (some q)=(q:Int) from rfl] at HHan ⊢
    have hq0:¬((q:Int) < 0):=by omega
    have hq1:decide ((q:Int) < 0)=false:=by simp
    go_wp2_with fail
    refine(HHas.out w2 HB2.out q (by omega)).mono ?_
    rintro e w3 ⟨rfl,hw⟩
    rw [hw]
    clear hw
    cases hmq:lv (ms X) q with
    | none =>
     have hHC:hnd Hs (q:Int)=-1:=by unfold hnd;rw [ax (show ¬((q:Int) < 0) by omega),Int.toNat_natCast,dV,HHs.out,F9 (by rw [aY];exact hq) hmq];rfl
     have hgs:=HA2.out
     obtain⟨gsl,csl,rfl⟩:=fO (jF HA2.out) (by have:=iy hnb;omega)
     go_upto_region 33 with fail
     have hne:=gI w2
     have y0:=fun(x:dS (jc w2))=>(bF (HA2.out.still x.h)).cell 0
     have y2:=fun(x:dS (jc w2))=>(bF (HA2.out.still x.h)).cell 2
     have y3:=fun(x:dS (jc w2))=>aU x.h hgh
     have y4:=fun(x:dS (jc w2))=>aU x.h hghb
     simp only [fQ,fP] at y0 y2
     refine mW (fun _ _=>True) (fun k v=>v=if k=[] then .int .i64 (hnd Hs ((q:Int))) else .tuple #[.slice none 0 0,.int .i64 6]) 27 (by kernel_rfl) (by kernel_rfl) (fun _ _ _ _ _=>trivial) trivial ?_
     simp only [mD,mr,l9,lZ]
     repeat (first
      | (refine RV.aN (by rfl) (by rfl) (fun K hK=>?_);go_big_quiet_step (fail);refine az ?_;refine hK.out _ ?_;clear hK K)
      | (refine RV.aK (by rfl) ?_;simp only [Act.put,dL,dK,dJ]))
     refine RV.dM (by rfl) (by rfl) (fun w=>by go_simp;exact⟨rfl,rfl⟩) (⟨_,rfl⟩) (fun X wx hx=>?_) (fun v hv=>?_)
     ·refine(HHan.out _ hx.1).mono ?_
      rintro e wy ⟨rfl,hw⟩
      exact⟨_,rfl,rfl,by rw [hw];exact hx.1,trivial⟩
     have hv':v=.int .i64 (hnd Hs ((q:Int))):=by simpa using hv
     clear hv
     subst hv'
     simp only [Act.put,dL,dK,dJ]
     repeat (first
      | (refine RV.aN (by rfl) (by rfl) (fun K hK=>?_);go_big_quiet_step (fail);refine az ?_;refine hK.out _ ?_;clear hK K)
      | (refine RV.aK (by rfl) ?_;simp only [Act.put,dL,dK,dJ]))
     refine RV.dM (by rfl) (by rfl) (fun w=>by go_simp;exact⟨rfl,rfl⟩) (⟨_,rfl⟩) (fun X wx hx=>?_) (fun v hv=>?_)
     ·rw [hHC]
      refine(Hu (jF (HA2.out.still hx.1)) HT.out.ok.lk _ _ nb n hnb hn (-1) (by omega) ⟨by omega,by omega⟩ (Jp S (by omega))).mono ?_
      rintro e wy ⟨rfl,hb⟩
      exact⟨_,rfl,by simp,aV hx.1 hb,trivial⟩
     have hv':v=.tuple #[.slice none 0 0,.int .i64 6]:=by simpa using hv
     clear hv
     subst hv'
     simp only [Act.put,dL,dK,dJ]
     repeat (first
      | (refine RV.aN (by rfl) (by rfl) (fun K hK=>?_);go_big_quiet_step (fail);refine az ?_;refine hK.out _ ?_;clear hK K)
      | (refine RV.aK (by rfl) ?_;simp only [Act.put,dL,dK,dJ]))
     refine RV.eH ?_
     intro w5 hb5 _
     have HA5:=ae (HA2.out.still hb5)
     clear y0 y2 y3 y4 hne hb5
     go_wp2_with fail
     go_ret2
     exact uC HT.out HA5.out HHs.out (by omega) (.inr ⟨hk,.inr ⟨q,by rw [aY];exact hoc2,hmq⟩⟩) (by omega)
    | some mq =>
     have hoM:∀z,some q=some z→∃mq,lv (ms X) z=some mq:=fun z h=>by cases h;exact⟨mq,hmq⟩
     have hoL:∀b,(some q).map σ = some b→(S.at b).isSome=true:=fun b h=>by cases h;obtain⟨n1,h1,_⟩:=HT.out.tw.node q mq hmq;rw [h1];rfl
     have hHC:hnd Hs (q:Int)=hO S ((some q).map σ):=by unfold hnd;rw [ax (show ¬((q:Int) < 0) by omega),Int.toNat_natCast,dV,HHs.out,A7 hmq];rfl
     go_upto_region 33 with fail
     haveI hne:Nonempty (dS (Cj g R Q gh (o.iA X.length) (o.iB X.length) w.heap.size (.slice (some ⟨gh,0,none⟩) X.length hvc) (S.hd (σ (o.iA X.length))) (S.hd (σ (o.iB X.length))) o)):=⟨⟨w2,rJ HA2.out HK2.out hgh w2 (ak _ _),hghb⟩⟩
     have y0:=fun(x:dS (Cj g R Q gh (o.iA X.length) (o.iB X.length) w.heap.size (.slice (some ⟨gh,0,none⟩) X.length hvc) (S.hd (σ (o.iA X.length))) (S.hd (σ (o.iB X.length))) o))=>x.h.1.bk.cell 0
     have y2:=fun(x:dS (Cj g R Q gh (o.iA X.length) (o.iB X.length) w.heap.size (.slice (some ⟨gh,0,none⟩) X.length hvc) (S.hd (σ (o.iA X.length))) (S.hd (σ (o.iB X.length))) o))=>x.h.1.bk.cell 2
     have y3:=fun(x:dS (Cj g R Q gh (o.iA X.length) (o.iB X.length) w.heap.size (.slice (some ⟨gh,0,none⟩) X.length hvc) (S.hd (σ (o.iA X.length))) (S.hd (σ (o.iB X.length))) o))=>x.h.1.hc
     have y4:=fun(x:dS (Cj g R Q gh (o.iA X.length) (o.iB X.length) w.heap.size (.slice (some ⟨gh,0,none⟩) X.length hvc) (S.hd (σ (o.iA X.length))) (S.hd (σ (o.iB X.length))) o))=>x.h.2
     simp only [fQ,fP] at y0 y2
     refine qP (Cj g R Q gh (o.iA X.length) (o.iB X.length) w.heap.size (.slice (some ⟨gh,0,none⟩) X.length hvc) (S.hd (σ (o.iA X.length))) (S.hd (σ (o.iB X.length))) o) (Vm w2 (Ey B w0 l g R Q (.slice (some ⟨gh,0,none⟩) X.length hvc) Hs nv X w.heap.size o (JZ S K d (σ (o.iB X.length)) (σ (o.iA X.length)) ((some q).map σ) nb n))) (fun k v=>if k=[] then v=.int .i64 (hnd Hs ((q:Int))) else ∃v0 er,v=.tuple #[v0,.int .i64 er]) 27 (by kernel_rfl) (by kernel_rfl) (Td (fun w' h=>⟨rJ HA2.out HK2.out hgh w' h,aU h hghb⟩) (fun v w' h=>⟨Gi HHl.out hhd v w' h,Qx HHl.out hhdb v w' h⟩)) (Fp pq) (ak _ _) ?_
     simp only [mD,mr,l9,lZ]
     repeat (first
      | (refine RV.aN (by rfl) (by rfl) (fun K hK=>?_);go_big_quiet_step (fail);refine az ?_;refine hK.out _ ?_;clear hK K)
      | (refine RV.aK (by rfl) ?_;simp only [Act.put,dL,dK,dJ]))
     refine RV.dM (by rfl) (by rfl) (fun w=>by go_simp;exact⟨rfl,rfl⟩) (⟨_,rfl⟩) (fun X wx hx=>?_) (fun v hv=>?_)
     ·refine(HHan.out _ hx).mono ?_
      rintro e wy ⟨rfl,hw⟩
      exact⟨_,rfl,rfl,by rw [hw];exact hx⟩
     have hv':v=.int .i64 (hnd Hs ((q:Int))):=by simpa using hv
     clear hv
     subst hv'
     simp only [Act.put,dL,dK,dJ]
     repeat (first
      | (refine RV.aN (by rfl) (by rfl) (fun K hK=>?_);go_big_quiet_step (fail);refine az ?_;refine hK.out _ ?_;clear hK K)
      | (refine RV.aK (by rfl) ?_;simp only [Act.put,dL,dK,dJ]))
     refine RV.dM (by rfl) (by rfl) (fun w=>by go_simp;exact⟨rfl,rfl⟩) (⟨_,by simp;exact⟨.slice none 0 0,0,rfl⟩⟩) (fun X wx hx=>?_) (fun v hv=>?_)
     ·rw [hHC]
      have hx2:Below w2.heap.size w2 wx:=hx
      have hA3:=HA2.out.still hx2
      have hk3:=HK2.out.below hx2
      have hT2:fZ 0 R S sv fv wx:=jF hA3
      have hcl:=II hT2 HT.out.ok.lk _ _ ((some q).map σ) nb n hnb hn hoL
      refine hcl.mono ?_
      intro e wy hy
      obtain⟨v,rfl,hsh,hr⟩:=wG hA3 hk3 hy
      exact⟨v,rfl,by simpa using hsh,hr⟩
     have hv':∃v0 er,v=.tuple #[v0,.int .i64 er]:=by simpa using hv
     clear hv
     obtain⟨v,er,rfl⟩:=hv'
     simp only [Act.put,dL,dK,dJ]
     repeat (first
      | (refine RV.aN (by rfl) (by rfl) (fun K hK=>?_);go_big_quiet_step (fail);refine az ?_;refine hK.out _ ?_;clear hK K)
      | (refine RV.aK (by rfl) ?_;simp only [Act.put,dL,dK,dJ]))
     refine RV.eH ?_
     intro w5 hF
     obtain⟨S',sv',fv',v',ts,er',he,hres,hA5,hK5⟩:=hF
     simp only [gy,gK,iL,fG,iq,jX,je] at he
     obtain⟨rfl,rfl⟩:=he
     have HA5:=ae hA5
     have HK5:=ae hK5
     have HRes:=ae hres
     clear y0 y2 y3 y4 hne hA5 hK5 hres
     obtain⟨gm,capm,rfl⟩:=(lG HA5.out.tail).W.shape hHp
     have g1':=(bF HA5.out.tail).cell 1
     simp only [fQ,fP] at g1'
     have hgl5:=(bF HA5.out.tail).lt
     have hgz5:=(bF HA5.out.tail).free
     go_wp2_with fail
     refine(Jj (lG HA5.out.tail) (HT.out.tw.mw HT.out.ok.lk) hmb hm (some q) hoM).mono ?_
     intro e w7 hy
     obtain⟨vm,rfl,⟨v2,en,rfl⟩,hF⟩:=wQ HA5.out HK5.out hy
     clear g1' hgl5 hgz5
     obtain⟨X',nv',v2',rs,en',he,hmr,hA7,ho7,_⟩:=hF
     simp only [gy,gK,iL,fG,iq,jX,je] at he
     obtain⟨rfl,rfl⟩:=he
     have HMr:=ae hmr
     have HA7:=ae hA7
     have HO7:=ae ho7
     obtain⟨v2a,v2c,rfl⟩:=aW ho7
     clear hmr ho7 hA7
     have hB:=JJ HT.out.ok HT.out.tw HT.out.cl hmb hm hnb hn hoM HRes.out HMr.out
     obtain⟨ts',hts,htl,hex,hmq⟩:=hB.I7
     obtain rfl:=qR hts
     have HB:=ae hB
     clear hB hts
     by_cases hee:er=en
     case neg =>
      have hd1:(er == en)=false:=by simpa using hee
      have hnx:¬ex:=fun h=>hee (hex h).1
      clear hex hmq
      go_wp2_with fail
      go_ret2
      exact ku HT.out HB.out HA7.out HHs.out (fun h=>absurd h hnx) (.ins m mb _ rs _ hk (by rw [aY];exact hm) (by rw [aY];exact hmb) (by rw [aY,hoc2];exact hoM) (by rw [aY,hoc2];exact HMr.out)) (by omega)
     have HMq:=ae (um HA7.out HHs.out (by rw [aY];omega) htl (hmq hee) HO7.out)
     have HEx:=ae hex
     subst hee
     clear hex hmq
     obtain⟨va7,vc7,hv7⟩:=aW (show Own w7 41 11 v ts.length (rows encR ts) from HA7.out.head)
     subst hv7
     go_wp2_with fail
     refine HMq.out.mono ?_
     rintro e w8 ⟨bq,rfl,hbq,hb8⟩
     have HA8:=ae (HA7.out.still hb8)
     have HBq:=ae hbq
     clear hb8 hbq
     go_wp2_with fail
     go_ret2
     exact ku HT.out HB.out HA8.out HHs.out (fun h=>⟨HBq.out (HEx.out h).2,(HEx.out h).2⟩) (.ins m mb _ rs _ hk (by rw [aY];exact hm) (by rw [aY];exact hmb) (by rw [aY,hoc2];exact hoM) (by rw [aY,hoc2];exact HMr.out)) (by omega)
theorem UB {ex:Prop}{E:Nat→Prop}{c x:Nat}{B:Nat}{w0 w:World}{l:List Ob}{g R Q:Nat}{hv sv fv nv:Value}{S:Tr}{K:Nat→List Nat}{d:Nat→Nat}{X:List MX}{σ : Nat→Nat}
  (hLd:Laid w)(h:All B w0 (kK g R Q hv (iZ S σ (ms X)) S sv fv nv X ++ l) w)(T:CX ex E c x S K d (ms X) σ)(hX:X.length≤600)(hx:x≤2000)(hce:ex→c≤60)(hc6:c≤200)(o:ou)(ho:o.Ok)(hk:o.k % 10=4) :
  Calls Tryz.prog 13 #[.pointer (some ⟨g,0,none⟩),.agg (opC o).toArray] w (E8 ex E c x B w0 l g R Q S K d (ms X) σ o):=by
 have hD:=uD h T hX hx ho
 obtain⟨Hs,hHs⟩:∃Hs,Hs=iZ S σ (ms X):=⟨_,rfl⟩
 rw [← hHs] at h
 have hHl:Hs.length=X.length:=by rw [hHs,jJ,aY]
 have hHp:0 < X.length:=hD.pos
 obtain⟨hva,hvc,hvv⟩:=aW (lL h)
 rw [hHl] at hvv
 subst hvv
 have HAl:=ae h
 have HT:=ae T
 have HO:=ae ho
 have HHs:=ae hHs
 have HHl:=ae hHl
 have HLd:=ae hLd
 have hbk:=bF h
 have g1:=hbk.cell 1
 have g2:=hbk.cell 2
 simp only [fQ,fP] at g1 g2
 have hgl:=hbk.lt
 have hgz:=hbk.free
 have hb1:=(ak w.heap.size w).alloc (au _) (.cells (opC o).toArray 39)
 have k1:=dD.new w (opC o) 39
 have hra:(o.a:Int) % (X.length:Int)=((o.iA X.length:Nat):Int):=rfl
 have hrb:(o.b:Int) % (X.length:Int)=((o.iB X.length:Nat):Int):=rfl
 have hrc:=ru o (n:=X.length) (by omega)
 have hrk:(o.k:Int) % 10=4:=by omega
 have hal:o.iA X.length < X.length:=jr _ hHp
 have hbl:o.iB X.length < X.length:=jr _ hHp
 have hn0:¬(X.length:Int)=0:=by omega
 have hn1:¬(X.length:Int)+1=0:=by omega
 have hoa:=ho.a
 have hob:=ho.b
 have hoc:=ho.c
 have hok:=ho.k
 have HHas:=ae (fun wx (hb:Below w.heap.size w wx) i (hi:i≤1000000)=>BV (h.still hb) i hi (by have:=hD.pos;omega))
 clear h T ho hHs hbk hLd
 simp only [opC] at k1 hb1 ⊢
 go_enter Tryz.func13,Tryz.ntmps13
 go_upto_region 2 with fail
 generalize w.alloc (.cells #[.int .u8 o.k,.int .u8 o.a,.int .u8 o.b,.int .u8 o.c,.string ⟨o.s.toArray⟩,.string ⟨o.t.toArray⟩,.int .i8 o.n,.int .i8 o.kk] 39)=w1 at *
 have hne:=gI w1
 have x1:=fun(x:dS (jc w1))=>(k1.below x.h).cell 1
 have x2:=fun(x:dS (jc w1))=>(k1.below x.h).cell 2
 have x3:=fun(x:dS (jc w1))=>(k1.below x.h).cell 3
 simp only [fQ,fP] at x1 x2 x3
 refine mW (fun _ _=>True) (fun _ _=>True) 20 (by kernel_rfl) (by kernel_rfl) (fun _ _ _ _ _=>trivial) trivial ?_
 simp only [mD,mr,l9,lZ]
 repeat (first
  | (refine RV.aN (by rfl) (by rfl) (fun K hK=>?_);go_big_quiet_step (fail);refine az ?_;refine hK.out _ ?_;clear hK K)
  | (refine RV.aK (by rfl) ?_;simp only [Act.put,dL,dK,dJ]))
 refine RV.eH ?_
 intro w2 hb2' _
 have HB2:=ae (aV hb1 hb2')
 have HK2:=ae (k1.below hb2')
 clear x1 x2 x3 hne hb1 hb2' k1 g1 g2 hHl
 rw [hra,hrb,hrc]
 have HA2:=ae (HAl.out.still HB2.out)
 have c0:=HK2.out.cell 0
 have g1:=(bF HA2.out).cell 1
 have g2:=(bF HA2.out).cell 2
 simp only [fQ,fP] at c0 g1 g2
 have hgl2:=(bF HA2.out).lt
 have hgz2:=(bF HA2.out).free
 have hxl2:=HK2.out.lt
 clear hgl hgz
 go_wp2_with fail
 refine(HHas.out w2 HB2.out _ (by omega)).mono ?_
 rintro e w3 ⟨rfl,hw⟩
 rw [hw]
 clear hw
 obtain⟨hd,hhd,hho,hcase⟩:=zI HT.out (i:=o.iA X.length) (by rw [aY];exact hal)
 rw [← HHs.out] at hhd
 obtain⟨gh,rfl,hghl,hgh⟩:=jk HA2.out HHl.out _ _ hhd
 have hai:(o.iA X.length:Int) < (X.length:Int):=by omega
 rcases hcase with ⟨m,n,hm,hn,rfl⟩ | ⟨hm,rfl,hix⟩
 case inr =>
  rw [hm]
  go_upto_region 41 with fail
  have hne:=gI w2
  have y0:=fun(x:dS (jc w2))=>(bF (HA2.out.still x.h)).cell 0
  have y2:=fun(x:dS (jc w2))=>(bF (HA2.out.still x.h)).cell 2
  have y3:=fun(x:dS (jc w2))=>aU x.h hgh
  simp only [fQ,fP] at y0 y2
  refine mW (fun _ _=>True) (fun _ v=>v=.tuple #[.slice none 0 0,.int .i64 6]) 17 (by kernel_rfl) (by kernel_rfl) (fun _ _ _ _ _=>trivial) trivial ?_
  simp only [mD,mr,l9,lZ]
  repeat (first
   | (refine RV.aN (by rfl) (by rfl) (fun K hK=>?_);go_big_quiet_step (fail);refine az ?_;refine hK.out _ ?_;clear hK K)
   | (refine RV.aK (by rfl) ?_;simp only [Act.put,dL,dK,dJ]))
  refine RV.dM (by rfl) (by rfl) (fun w=>by go_simp;exact⟨rfl,rfl⟩) (⟨_,rfl⟩) (fun X wx hx=>?_) (fun v hv=>?_)
  ·refine(I4 (jF (HA2.out.still hx.1)) (-1) hho hix).mono ?_
   rintro e wy ⟨rfl,hb⟩
   exact⟨_,rfl,rfl,aV hx.1 hb,trivial⟩
  obtain rfl:v=.tuple #[.slice none 0 0,.int .i64 6]:=hv
  simp only [Act.put,dL,dK,dJ]
  repeat (first
   | (refine RV.aN (by rfl) (by rfl) (fun K hK=>?_);go_big_quiet_step (fail);refine az ?_;refine hK.out _ ?_;clear hK K)
   | (refine RV.aK (by rfl) ?_;simp only [Act.put,dL,dK,dJ]))
  refine RV.eH ?_
  intro w5 hb5 _
  have HA5:=ae (HA2.out.still hb5)
  clear y0 y2 y3 hne hb5
  go_wp2_with fail
  go_ret2
  exact uC HT.out HA5.out HHs.out (by omega) (.inl (by rw [aY];exact hm)) (by omega)
 case inl =>
  rw [hm]
  go_upto_region 41 with fail
  haveI hne:Nonempty (dS (wu g R Q gh (o.iA X.length) w.heap.size (.slice (some ⟨gh,0,none⟩) X.length hvc) (S.hd (σ (o.iA X.length))) o)):=⟨⟨w2,rJ HA2.out HK2.out hgh w2 (ak _ _)⟩⟩
  have y0:=fun(x:dS (wu g R Q gh (o.iA X.length) w.heap.size (.slice (some ⟨gh,0,none⟩) X.length hvc) (S.hd (σ (o.iA X.length))) o))=>x.h.bk.cell 0
  have y2:=fun(x:dS (wu g R Q gh (o.iA X.length) w.heap.size (.slice (some ⟨gh,0,none⟩) X.length hvc) (S.hd (σ (o.iA X.length))) o))=>x.h.bk.cell 2
  have y3:=fun(x:dS (wu g R Q gh (o.iA X.length) w.heap.size (.slice (some ⟨gh,0,none⟩) X.length hvc) (S.hd (σ (o.iA X.length))) o))=>x.h.hc
  simp only [opC,fQ,fP] at y0 y2
  refine qP (wu g R Q gh (o.iA X.length) w.heap.size (.slice (some ⟨gh,0,none⟩) X.length hvc) (S.hd (σ (o.iA X.length))) o) (TF w2 (Ey B w0 l g R Q (.slice (some ⟨gh,0,none⟩) X.length hvc) Hs nv X w.heap.size o (OQ S K (σ (o.iA X.length)) n))) (fun _ v=>∃v0 er,v=.tuple #[v0,.int .i64 er]) 17 (by kernel_rfl) (by kernel_rfl) (Aj (rJ HA2.out HK2.out hgh) (Gi HHl.out hhd)) (kL pq) (ak _ _) ?_
  simp only [mD,mr,l9,lZ]
  repeat (first
   | (refine RV.aN (by rfl) (by rfl) (fun K hK=>?_);go_big_quiet_step (fail);refine az ?_;refine hK.out _ ?_;clear hK K)
   | (refine RV.aK (by rfl) ?_;simp only [Act.put,dL,dK,dJ]))
  refine RV.dM (by rfl) (by rfl) (fun w=>by go_simp;exact⟨rfl,rfl⟩) (⟨_,.slice none 0 0,0,rfl⟩) (fun X wx hx=>?_) (fun v hv=>?_)
  ·refine(Pg (jF (HA2.out.still hx)) HT.out.ok.lk _ n hn).mono ?_
   intro e wy hy
   obtain⟨v,rfl,hsh,hr⟩:=wG (HA2.out.still hx) (HK2.out.below hx) hy
   exact⟨v,rfl,hsh,hr⟩
  obtain⟨v,er,rfl⟩:=hv
  simp only [Act.put,dL,dK,dJ]
  repeat (first
   | (refine RV.aN (by rfl) (by rfl) (fun K hK=>?_);go_big_quiet_step (fail);refine az ?_;refine hK.out _ ?_;clear hK K)
   | (refine RV.aK (by rfl) ?_;simp only [Act.put,dL,dK,dJ]))
  refine RV.eH ?_
  intro w5 hF
  obtain⟨S',sv',fv',v',ts,er',he,hres,hA5,hK5⟩:=hF
  simp only [gy,gK,iL,fG,iq,jX,je] at he
  obtain⟨rfl,rfl⟩:=he
  have HA5:=ae hA5
  have HK5:=ae hK5
  have HRes:=ae hres
  clear y0 y2 y3 hne hA5 hK5 hres
  obtain⟨gm,capm,rfl⟩:=(lG HA5.out.tail).W.shape hHp
  have g1':=(bF HA5.out.tail).cell 1
  simp only [fQ,fP] at g1'
  have hgl5:=(bF HA5.out.tail).lt
  have hgz5:=(bF HA5.out.tail).free
  go_wp2_with fail
  refine(Ji (lG HA5.out.tail) (HT.out.tw.mw HT.out.ok.lk) hm).mono ?_
  intro e w7 hy
  obtain⟨vm,rfl,⟨v2,en,rfl⟩,hF⟩:=wQ HA5.out HK5.out hy
  clear g1' hgl5 hgz5
  obtain⟨X',nv',v2',rs,en',he,hmr,hA7,ho7,_⟩:=hF
  simp only [gy,gK,iL,fG,iq,jX,je] at he
  obtain⟨rfl,rfl⟩:=he
  have HMr:=ae hmr
  have HA7:=ae hA7
  have HO7:=ae ho7
  obtain⟨v2a,v2c,rfl⟩:=aW ho7
  clear hmr ho7 hA7
  have hB:=QM HT.out.ok HT.out.tw HT.out.cl hm hn HRes.out HMr.out
  obtain⟨ts',hts,htl,hex,hmq⟩:=hB.I7
  obtain rfl:=qR hts
  have HB:=ae hB
  clear hB hts
  by_cases hee:er=en
  case neg =>
   have hd1:(er == en)=false:=by simpa using hee
   have hnx:¬ex:=fun h=>hee (hex h).1
   clear hex hmq
   go_wp2_with fail
   go_ret2
   exact ku HT.out HB.out HA7.out HHs.out (fun h=>absurd h hnx) (.rem m _ rs _ hk (by rw [aY];exact hm) (by rw [aY];exact HMr.out)) (by omega)
  have HMq:=ae (um HA7.out HHs.out (by rw [aY];omega) htl (hmq hee) HO7.out)
  have HEx:=ae hex
  subst hee
  clear hex hmq
  obtain⟨va7,vc7,hv7⟩:=aW (show Own w7 41 11 v ts.length (rows encR ts) from HA7.out.head)
  subst hv7
  go_wp2_with fail
  refine HMq.out.mono ?_
  rintro e w8 ⟨bq,rfl,hbq,hb8⟩
  have HA8:=ae (HA7.out.still hb8)
  have HBq:=ae hbq
  clear hb8 hbq
  go_wp2_with fail
  go_ret2
  exact ku HT.out HB.out HA8.out HHs.out (fun h=>⟨HBq.out (HEx.out h).2,(HEx.out h).2⟩) (.rem m _ rs _ hk (by rw [aY];exact hm) (by rw [aY];exact HMr.out)) (by omega)
theorem Uz {ex:Prop}{E:Nat→Prop}{c x:Nat}{B:Nat}{w0 w:World}{l:List Ob}{g R Q:Nat}{hv sv fv nv:Value}{S:Tr}{K:Nat→List Nat}{d:Nat→Nat}{X:List MX}{σ : Nat→Nat}
  (hLd:Laid w)(h:All B w0 (kK g R Q hv (iZ S σ (ms X)) S sv fv nv X ++ l) w)(T:CX ex E c x S K d (ms X) σ)(hX:X.length≤600)(hx:x≤2000)(hce:ex→c≤60)(hc6:c≤200)(o:ou)(ho:o.Ok)(hk:o.k % 10=5) :
  Calls Tryz.prog 13 #[.pointer (some ⟨g,0,none⟩),.agg (opC o).toArray] w (E8 ex E c x B w0 l g R Q S K d (ms X) σ o):=by
 have hD:=uD h T hX hx ho
 obtain⟨Hs,hHs⟩:∃Hs,Hs=iZ S σ (ms X):=⟨_,rfl⟩
 rw [← hHs] at h
 have hHl:Hs.length=X.length:=by rw [hHs,jJ,aY]
 have hHp:0 < X.length:=hD.pos
 obtain⟨hva,hvc,hvv⟩:=aW (lL h)
 rw [hHl] at hvv
 subst hvv
 have HAl:=ae h
 have HT:=ae T
 have HO:=ae ho
 have HHs:=ae hHs
 have HHl:=ae hHl
 have HLd:=ae hLd
 have hbk:=bF h
 have g1:=hbk.cell 1
 have g2:=hbk.cell 2
 simp only [fQ,fP] at g1 g2
 have hgl:=hbk.lt
 have hgz:=hbk.free
 have hb1:=(ak w.heap.size w).alloc (au _) (.cells (opC o).toArray 39)
 have k1:=dD.new w (opC o) 39
 have hra:(o.a:Int) % (X.length:Int)=((o.iA X.length:Nat):Int):=rfl
 have hrb:(o.b:Int) % (X.length:Int)=((o.iB X.length:Nat):Int):=rfl
 have hrc:=ru o (n:=X.length) (by omega)
 have hrk:(o.k:Int) % 10=5:=by omega
 have hal:o.iA X.length < X.length:=jr _ hHp
 have hbl:o.iB X.length < X.length:=jr _ hHp
 have hn0:¬(X.length:Int)=0:=by omega
 have hn1:¬(X.length:Int)+1=0:=by omega
 have hoa:=ho.a
 have hob:=ho.b
 have hoc:=ho.c
 have hok:=ho.k
 have HHas:=ae (fun wx (hb:Below w.heap.size w wx) i (hi:i≤1000000)=>BV (h.still hb) i hi (by have:=hD.pos;omega))
 clear h T ho hHs hbk hLd
 simp only [opC] at k1 hb1 ⊢
 go_enter Tryz.func13,Tryz.ntmps13
 go_upto_region 2 with fail
 generalize w.alloc (.cells #[.int .u8 o.k,.int .u8 o.a,.int .u8 o.b,.int .u8 o.c,.string ⟨o.s.toArray⟩,.string ⟨o.t.toArray⟩,.int .i8 o.n,.int .i8 o.kk] 39)=w1 at *
 have hne:=gI w1
 have x1:=fun(x:dS (jc w1))=>(k1.below x.h).cell 1
 have x2:=fun(x:dS (jc w1))=>(k1.below x.h).cell 2
 have x3:=fun(x:dS (jc w1))=>(k1.below x.h).cell 3
 simp only [fQ,fP] at x1 x2 x3
 refine mW (fun _ _=>True) (fun _ _=>True) 20 (by kernel_rfl) (by kernel_rfl) (fun _ _ _ _ _=>trivial) trivial ?_
 simp only [mD,mr,l9,lZ]
 repeat (first
  | (refine RV.aN (by rfl) (by rfl) (fun K hK=>?_);go_big_quiet_step (fail);refine az ?_;refine hK.out _ ?_;clear hK K)
  | (refine RV.aK (by rfl) ?_;simp only [Act.put,dL,dK,dJ]))
 refine RV.eH ?_
 intro w2 hb2' _
 have HB2:=ae (aV hb1 hb2')
 have HK2:=ae (k1.below hb2')
 clear x1 x2 x3 hne hb1 hb2' k1 g1 g2 hHl
 rw [hra,hrb,hrc]
 have HA2:=ae (HAl.out.still HB2.out)
 have c0:=HK2.out.cell 0
 have g1:=(bF HA2.out).cell 1
 have g2:=(bF HA2.out).cell 2
 simp only [fQ,fP] at c0 g1 g2
 have hgl2:=(bF HA2.out).lt
 have hgz2:=(bF HA2.out).free
 have hxl2:=HK2.out.lt
 clear hgl hgz
 go_wp2_with fail
 refine(HHas.out w2 HB2.out _ (by omega)).mono ?_
 rintro e w3 ⟨rfl,hw⟩
 rw [hw]
 clear hw
 obtain⟨hd,hhd,hho,hcase⟩:=zI HT.out (i:=o.iA X.length) (by rw [aY];exact hal)
 rw [← HHs.out] at hhd
 obtain⟨gh,rfl,hghl,hgh⟩:=jk HA2.out HHl.out _ _ hhd
 have hai:(o.iA X.length:Int) < (X.length:Int):=by omega
 rcases hcase with ⟨m,n,hm,hn,rfl⟩ | ⟨hm,rfl,hix⟩
 case inr =>
  rw [hm]
  go_upto_region 49 with fail
  have hne:=gI w2
  have y0:=fun(x:dS (jc w2))=>(bF (HA2.out.still x.h)).cell 0
  have y2:=fun(x:dS (jc w2))=>(bF (HA2.out.still x.h)).cell 2
  have y3:=fun(x:dS (jc w2))=>aU x.h hgh
  have z4:=fun(x:dS (jc w2))=>(HK2.out.below x.h).cell 4
  have z5:=fun(x:dS (jc w2))=>(HK2.out.below x.h).cell 5
  simp only [fQ,fP] at y0 y2 z4 z5
  refine mW (fun _ _=>True) (fun _ v=>v=.tuple #[.slice none 0 0,.int .i64 6]) 21 (by kernel_rfl) (by kernel_rfl) (fun _ _ _ _ _=>trivial) trivial ?_
  simp only [mD,mr,l9,lZ]
  repeat (first
   | (refine RV.aN (by rfl) (by rfl) (fun K hK=>?_);go_big_quiet_step (fail);refine az ?_;refine hK.out _ ?_;clear hK K)
   | (refine RV.aK (by rfl) ?_;simp only [Act.put,dL,dK,dJ]))
  refine RV.dM (by rfl) (by rfl) (fun w=>by go_simp;exact⟨rfl,rfl⟩) (⟨_,rfl⟩) (fun X wx hx=>?_) (fun v hv=>?_)
  ·refine(GG (jF (HA2.out.still hx.1)) (-1) hho hix _ _).mono ?_
   rintro e wy ⟨rfl,hb⟩
   exact⟨_,rfl,rfl,aV hx.1 hb,trivial⟩
  obtain rfl:v=.tuple #[.slice none 0 0,.int .i64 6]:=hv
  simp only [Act.put,dL,dK,dJ]
  repeat (first
   | (refine RV.aN (by rfl) (by rfl) (fun K hK=>?_);go_big_quiet_step (fail);refine az ?_;refine hK.out _ ?_;clear hK K)
   | (refine RV.aK (by rfl) ?_;simp only [Act.put,dL,dK,dJ]))
  refine RV.eH ?_
  intro w5 hb5 _
  have HA5:=ae (HA2.out.still hb5)
  clear y0 y2 y3 z4 z5 hne hb5
  go_wp2_with fail
  go_ret2
  exact uC HT.out HA5.out HHs.out (by omega) (.inl (by rw [aY];exact hm)) (by omega)
 case inl =>
  rw [hm]
  go_upto_region 49 with fail
  haveI hne:Nonempty (dS (wu g R Q gh (o.iA X.length) w.heap.size (.slice (some ⟨gh,0,none⟩) X.length hvc) (S.hd (σ (o.iA X.length))) o)):=⟨⟨w2,rJ HA2.out HK2.out hgh w2 (ak _ _)⟩⟩
  have y0:=fun(x:dS (wu g R Q gh (o.iA X.length) w.heap.size (.slice (some ⟨gh,0,none⟩) X.length hvc) (S.hd (σ (o.iA X.length))) o))=>x.h.bk.cell 0
  have y2:=fun(x:dS (wu g R Q gh (o.iA X.length) w.heap.size (.slice (some ⟨gh,0,none⟩) X.length hvc) (S.hd (σ (o.iA X.length))) o))=>x.h.bk.cell 2
  have y3:=fun(x:dS (wu g R Q gh (o.iA X.length) w.heap.size (.slice (some ⟨gh,0,none⟩) X.length hvc) (S.hd (σ (o.iA X.length))) o))=>x.h.hc
  have z4:=fun(x:dS (wu g R Q gh (o.iA X.length) w.heap.size (.slice (some ⟨gh,0,none⟩) X.length hvc) (S.hd (σ (o.iA X.length))) o))=>x.h.bx.cell 4
  have z5:=fun(x:dS (wu g R Q gh (o.iA X.length) w.heap.size (.slice (some ⟨gh,0,none⟩) X.length hvc) (S.hd (σ (o.iA X.length))) o))=>x.h.bx.cell 5
  simp only [opC,fQ,fP] at y0 y2 z4 z5
  refine qP (wu g R Q gh (o.iA X.length) w.heap.size (.slice (some ⟨gh,0,none⟩) X.length hvc) (S.hd (σ (o.iA X.length))) o) (TF w2 (Ey B w0 l g R Q (.slice (some ⟨gh,0,none⟩) X.length hvc) Hs nv X w.heap.size o (fun S' ls er=>∃W0 v,Cc W0 S (σ (o.iA X.length)) n o.s o.t S' v er ls))) (fun _ v=>∃v0 er,v=.tuple #[v0,.int .i64 er]) 21 (by kernel_rfl) (by kernel_rfl) (Aj (rJ HA2.out HK2.out hgh) (Gi HHl.out hhd)) (kL pq) (ak _ _) ?_
  simp only [mD,mr,l9,lZ]
  repeat (first
   | (refine RV.aN (by rfl) (by rfl) (fun K hK=>?_);go_big_quiet_step (fail);refine az ?_;refine hK.out _ ?_;clear hK K)
   | (refine RV.aK (by rfl) ?_;simp only [Act.put,dL,dK,dJ]))
  refine RV.dM (by rfl) (by rfl) (fun w=>by go_simp;exact⟨rfl,rfl⟩) (⟨_,.slice none 0 0,0,rfl⟩) (fun X wx hx=>?_) (fun v hv=>?_)
  ·refine(O8 (jF (HA2.out.still hx)) HT.out.ok.lk _ n hn (HT.out.ok.nd _ n hn).al o.s o.t (by have:=HO.out.s;omega) (by have:=HO.out.t;omega) ((HLd.out.below HB2.out).below hx)).mono ?_
   intro e wy hy
   obtain⟨v,rfl,hsh,hr⟩:=wG (HA2.out.still hx) (HK2.out.below hx) hy
   exact⟨v,rfl,hsh,hr⟩
  obtain⟨v,er,rfl⟩:=hv
  simp only [Act.put,dL,dK,dJ]
  repeat (first
   | (refine RV.aN (by rfl) (by rfl) (fun K hK=>?_);go_big_quiet_step (fail);refine az ?_;refine hK.out _ ?_;clear hK K)
   | (refine RV.aK (by rfl) ?_;simp only [Act.put,dL,dK,dJ]))
  refine RV.eH ?_
  intro w5 hF
  obtain⟨S',sv',fv',v',ts,er',he,hres,hA5,hK5⟩:=hF
  simp only [gy,gK,iL,fG,iq,jX,je] at he
  obtain⟨rfl,rfl⟩:=he
  have HA5:=ae hA5
  have HK5:=ae hK5
  have HRes:=ae hres
  clear y0 y2 y3 z4 z5 hne hA5 hK5 hres
  obtain⟨gm,capm,rfl⟩:=(lG HA5.out.tail).W.shape hHp
  go_upto_region 53 with fail
  haveI hne:Nonempty (dS (uZ g R Q w.heap.size (.slice (some ⟨gh,0,none⟩) X.length hvc) o)):=⟨⟨w5,bF HA5.out.tail,HK5.out⟩⟩
  have y1:=fun(x:dS (uZ g R Q w.heap.size (.slice (some ⟨gh,0,none⟩) X.length hvc) o))=>x.h.bk.cell 1
  have z4:=fun(x:dS (uZ g R Q w.heap.size (.slice (some ⟨gh,0,none⟩) X.length hvc) o))=>x.h.bx.cell 4
  have z5:=fun(x:dS (uZ g R Q w.heap.size (.slice (some ⟨gh,0,none⟩) X.length hvc) o))=>x.h.bx.cell 5
  simp only [opC,fQ,fP] at y1 z4 z5
  refine qP (uZ g R Q w.heap.size (.slice (some ⟨gh,0,none⟩) X.length hvc) o) (TF w5 (Iu B w0 l g R Q (.slice (some ⟨gh,0,none⟩) X.length hvc) Hs S' sv' fv' v ts w.heap.size o (zW (ms X) (o.iA X.length) m o.s o.t))) (fun _ v=>∃v0 er,v=.tuple #[v0,.int .i64 er]) 15 (by kernel_rfl) (by kernel_rfl) (Aj (fun w' h=>⟨(bF HA5.out.tail).below h,HK5.out.below h⟩) (fun v w' h=>by obtain⟨X',nv',v2,rs,en,e,hr,hA,ho,hk⟩:=h;exact⟨bF hA.tail,hk⟩)) (kL xZ) (ak _ _) ?_
  simp only [mD,mr,l9,lZ]
  repeat (first
   | (refine RV.aN (by rfl) (by rfl) (fun K hK=>?_);go_big_quiet_step (fail);refine az ?_;refine hK.out _ ?_;clear hK K)
   | (refine RV.aK (by rfl) ?_;simp only [Act.put,dL,dK,dJ]))
  refine RV.dM (by rfl) (by rfl) (fun w=>by go_simp;exact⟨rfl,rfl⟩) (⟨_,.slice none 0 0,0,rfl⟩) (fun X wx hx=>?_) (fun v hv=>?_)
  ·refine(G9 (lG (HA5.out.still hx).tail) (by omega) hm (by have:=HT.out.tw.ma _ m hm;omega) o.s o.t (by have:=HO.out.s;omega) (by have:=HO.out.t;omega)).mono ?_
   intro e wy hy
   obtain⟨v,rfl,hsh,hr⟩:=wQ (HA5.out.still hx) (HK5.out.below hx) hy
   exact⟨v,rfl,hsh,hr⟩
  obtain⟨v2,en,rfl⟩:=hv
  simp only [Act.put,dL,dK,dJ]
  repeat (first
   | (refine RV.aN (by rfl) (by rfl) (fun K hK=>?_);go_big_quiet_step (fail);refine az ?_;refine hK.out _ ?_;clear hK K)
   | (refine RV.aK (by rfl) ?_;simp only [Act.put,dL,dK,dJ]))
  refine RV.eH ?_
  intro w7 hF
  have hF:Iu B w0 l g R Q (.slice (some ⟨gh,0,none⟩) X.length hvc) Hs S' sv' fv' v ts w.heap.size o (zW (ms X) (o.iA X.length) m o.s o.t) (.tuple #[v2,.int .i64 en]) w7:=hF
  clear y1 z4 z5 hne
  obtain⟨X',nv',v2',rs,en',he,hmr,hA7,ho7,_⟩:=hF
  simp only [gy,gK,iL,fG,iq,jX,je] at he
  obtain⟨rfl,rfl⟩:=he
  have HMr:=ae hmr
  have HA7:=ae hA7
  have HO7:=ae ho7
  obtain⟨v2a,v2c,rfl⟩:=aW ho7
  clear hmr ho7 hA7
  have hB:=QK HT.out.ok HT.out.tw HT.out.cl hce hm hn HRes.out HMr.out (by have:=HO.out.s;omega) (by have:=HO.out.t;omega)
  obtain⟨ts',hts,htl,hex,hmq⟩:=hB.I7
  obtain rfl:=qR hts
  have HB:=ae hB
  clear hB hts
  by_cases hee:er=en
  case neg =>
   have hd1:(er == en)=false:=by simpa using hee
   have hnx:¬ex:=fun h=>hee (hex h).1
   clear hex hmq
   go_wp2_with fail
   go_ret2
   exact ku HT.out HB.out HA7.out HHs.out (fun h=>absurd h hnx) (.Rk m _ rs _ hk (by rw [aY];exact hm) (by rw [aY];exact HMr.out)) (by omega)
  have HMq:=ae (um HA7.out HHs.out (by rw [aY];omega) htl (hmq hee) HO7.out)
  have HEx:=ae hex
  subst hee
  clear hex hmq
  obtain⟨va7,vc7,hv7⟩:=aW (show Own w7 41 11 v ts.length (rows encR ts) from HA7.out.head)
  subst hv7
  go_wp2_with fail
  refine HMq.out.mono ?_
  rintro e w8 ⟨bq,rfl,hbq,hb8⟩
  have HA8:=ae (HA7.out.still hb8)
  have HBq:=ae hbq
  clear hb8 hbq
  go_wp2_with fail
  go_ret2
  exact ku HT.out HB.out HA8.out HHs.out (fun h=>⟨HBq.out (HEx.out h).2,(HEx.out h).2⟩) (.Rk m _ rs _ hk (by rw [aY];exact hm) (by rw [aY];exact HMr.out)) (by omega)
end Go.Proofs.YtfelmdkeaacfeaaGreatDoor.W
end
