/- Texts joined: Do6 Do7 Nod. -/
import Derived.Test.YtfelmdkeaacfeaaGreatDoorTB1
import Derived.Test.YtfelmdkeaacfeaaGreatDoorTB34
import Derived.Test.YtfelmdkeaacfeaaGreatDoorTB27
set_option maxRecDepth 100000
set_option maxHeartbeats 40000000
set_option linter.unusedVariables false
set_option linter.unusedSimpArgs false
section
namespace Go.Proofs.YtfelmdkeaacfeaaGreatDoor.W
open Go.RowKit
theorem UD {ex:Prop}{E:Nat→Prop}{c x:Nat}{B:Nat}{w0 w:World}{l:List Ob}{g R Q:Nat}{hv sv fv nv:Value}{S:Tr}{K:Nat→List Nat}{d:Nat→Nat}{X:List MX}{σ : Nat→Nat}
  (hLd:Laid w)(h:All B w0 (kK g R Q hv (iZ S σ (ms X)) S sv fv nv X ++ l) w)(T:CX ex E c x S K d (ms X) σ)(hX:X.length≤600)(hx:x≤2000)(hce:ex→c≤60)(hc6:c≤200)(o:ou)(ho:o.Ok)(hk:o.k % 10=6) :
  Calls Tryz.prog 13 #[.pointer (some ⟨g,0,none⟩),.agg (opC o).toArray] w (E8 ex E c x B w0 l g R Q S K d (ms X) σ o):=by
 have hD:=uD h T hX hx ho
 obtain⟨Hs,hHs⟩:∃Hs,Hs=iZ S σ (ms X):=⟨_,rfl⟩
 rw [← hHs] at h
 have hHl:Hs.length=X.length:=by rw [hHs,jJ,aY]
 have hHp:0 < X.length:=hD.pos
 obtain⟨hva,hvc,hvv⟩:=aW (lL h)
 rw [hHl] at hvv
 subst hvv
 have HAl:=ae h
 have HT:=ae T
 have HO:=ae ho
 have HHs:=ae hHs
 have HHl:=ae hHl
 have HLd:=ae hLd
 have hbk:=bF h
 have g1:=hbk.cell 1
 have g2:=hbk.cell 2
 simp only [fQ,fP] at g1 g2
 have hgl:=hbk.lt
 have hgz:=hbk.free
 have hb1:=(ak w.heap.size w).alloc (au _) (.cells (opC o).toArray 39)
 have k1:=dD.new w (opC o) 39
 have hra:(o.a:Int) % (X.length:Int)=((o.iA X.length:Nat):Int):=rfl
 have hrb:(o.b:Int) % (X.length:Int)=((o.iB X.length:Nat):Int):=rfl
 have hrc:=ru o (n:=X.length) (by omega)
 have hrk:(o.k:Int) % 10=6:=by omega
 have hal:o.iA X.length < X.length:=jr _ hHp
 have hbl:o.iB X.length < X.length:=jr _ hHp
 have hn0:¬(X.length:Int)=0:=by omega
 have hn1:¬(X.length:Int)+1=0:=by omega
 have hoa:=ho.a
 have hob:=ho.b
 have hoc:=ho.c
 have hok:=ho.k
 have HHas:=ae (fun wx (hb:Below w.heap.size w wx) i (hi:i≤1000000)=>BV (h.still hb) i hi (by have:=hD.pos;omega))
 clear h T ho hHs hbk hLd
 simp only [opC] at k1 hb1 ⊢
 go_enter Tryz.func13,Tryz.ntmps13
 go_upto_region 2 with fail
 generalize w.alloc (.cells #[.int .u8 o.k,.int .u8 o.a,.int .u8 o.b,.int .u8 o.c,.string ⟨o.s.toArray⟩,.string ⟨o.t.toArray⟩,.int .i8 o.n,.int .i8 o.kk] 39)=w1 at *
 have hne:=gI w1
 have x1:=fun(x:dS (jc w1))=>(k1.below x.h).cell 1
 have x2:=fun(x:dS (jc w1))=>(k1.below x.h).cell 2
 have x3:=fun(x:dS (jc w1))=>(k1.below x.h).cell 3
 simp only [fQ,fP] at x1 x2 x3
 refine mW (fun _ _=>True) (fun _ _=>True) 20 (by kernel_rfl) (by kernel_rfl) (fun _ _ _ _ _=>trivial) trivial ?_
 simp only [mD,mr,l9,lZ]
 repeat (first
  | (refine RV.aN (by rfl) (by rfl) (fun K hK=>?_);go_big_quiet_step (fail);refine az ?_;refine hK.out _ ?_;clear hK K)
  | (refine RV.aK (by rfl) ?_;simp only [Act.put,dL,dK,dJ]))
 refine RV.eH ?_
 intro w2 hb2' _
 have HB2:=ae (aV hb1 hb2')
 have HK2:=ae (k1.below hb2')
 clear x1 x2 x3 hne hb1 hb2' k1 g1 g2 hHl
 rw [hra,hrb,hrc]
 have HA2:=ae (HAl.out.still HB2.out)
 have c0:=HK2.out.cell 0
 have g1:=(bF HA2.out).cell 1
 have g2:=(bF HA2.out).cell 2
 simp only [fQ,fP] at c0 g1 g2
 have hgl2:=(bF HA2.out).lt
 have hgz2:=(bF HA2.out).free
 have hxl2:=HK2.out.lt
 clear hgl hgz
 go_wp2_with fail
 refine(HHas.out w2 HB2.out _ (by omega)).mono ?_
 rintro e w3 ⟨rfl,hw⟩
 rw [hw]
 clear hw
 obtain⟨hd,hhd,hho,hcase⟩:=zI HT.out (i:=o.iA X.length) (by rw [aY];exact hal)
 rw [← HHs.out] at hhd
 obtain⟨gh,rfl,hghl,hgh⟩:=jk HA2.out HHl.out _ _ hhd
 have hai:(o.iA X.length:Int) < (X.length:Int):=by omega
 rcases hcase with ⟨m,n,hm,hn,rfl⟩ | ⟨hm,rfl,hix⟩
 case inr =>
  rw [hm]
  go_upto_region 57 with fail
  have hne:=gI w2
  have y0:=fun(x:dS (jc w2))=>(bF (HA2.out.still x.h)).cell 0
  have y2:=fun(x:dS (jc w2))=>(bF (HA2.out.still x.h)).cell 2
  have y3:=fun(x:dS (jc w2))=>aU x.h hgh
  have z4:=fun(x:dS (jc w2))=>(HK2.out.below x.h).cell 4
  simp only [fQ,fP] at y0 y2 z4
  refine mW (fun _ _=>True) (fun _ v=>v=.tuple #[.slice none 0 0,.int .i64 6]) 19 (by kernel_rfl) (by kernel_rfl) (fun _ _ _ _ _=>trivial) trivial ?_
  simp only [mD,mr,l9,lZ]
  repeat (first
   | (refine RV.aN (by rfl) (by rfl) (fun K hK=>?_);go_big_quiet_step (fail);refine az ?_;refine hK.out _ ?_;clear hK K)
   | (refine RV.aK (by rfl) ?_;simp only [Act.put,dL,dK,dJ]))
  refine RV.dM (by rfl) (by rfl) (fun w=>by go_simp;exact⟨rfl,rfl⟩) (⟨_,rfl⟩) (fun X wx hx=>?_) (fun v hv=>?_)
  ·refine(EU (jF (HA2.out.still hx.1)) (-1) hho hix _).mono ?_
   rintro e wy ⟨rfl,hb⟩
   exact⟨_,rfl,rfl,aV hx.1 hb,trivial⟩
  obtain rfl:v=.tuple #[.slice none 0 0,.int .i64 6]:=hv
  simp only [Act.put,dL,dK,dJ]
  repeat (first
   | (refine RV.aN (by rfl) (by rfl) (fun K hK=>?_);go_big_quiet_step (fail);refine az ?_;refine hK.out _ ?_;clear hK K)
   | (refine RV.aK (by rfl) ?_;simp only [Act.put,dL,dK,dJ]))
  refine RV.eH ?_
  intro w5 hb5 _
  have HA5:=ae (HA2.out.still hb5)
  clear y0 y2 y3 z4 hne hb5
  go_wp2_with fail
  go_ret2
  exact uC HT.out HA5.out HHs.out (by omega) (.inl (by rw [aY];exact hm)) (by omega)
 case inl =>
  rw [hm]
  go_upto_region 57 with fail
  haveI hne:Nonempty (dS (wu g R Q gh (o.iA X.length) w.heap.size (.slice (some ⟨gh,0,none⟩) X.length hvc) (S.hd (σ (o.iA X.length))) o)):=⟨⟨w2,rJ HA2.out HK2.out hgh w2 (ak _ _)⟩⟩
  have y0:=fun(x:dS (wu g R Q gh (o.iA X.length) w.heap.size (.slice (some ⟨gh,0,none⟩) X.length hvc) (S.hd (σ (o.iA X.length))) o))=>x.h.bk.cell 0
  have y2:=fun(x:dS (wu g R Q gh (o.iA X.length) w.heap.size (.slice (some ⟨gh,0,none⟩) X.length hvc) (S.hd (σ (o.iA X.length))) o))=>x.h.bk.cell 2
  have y3:=fun(x:dS (wu g R Q gh (o.iA X.length) w.heap.size (.slice (some ⟨gh,0,none⟩) X.length hvc) (S.hd (σ (o.iA X.length))) o))=>x.h.hc
  have z4:=fun(x:dS (wu g R Q gh (o.iA X.length) w.heap.size (.slice (some ⟨gh,0,none⟩) X.length hvc) (S.hd (σ (o.iA X.length))) o))=>x.h.bx.cell 4
  simp only [opC,fQ,fP] at y0 y2 z4
  refine qP (wu g R Q gh (o.iA X.length) w.heap.size (.slice (some ⟨gh,0,none⟩) X.length hvc) (S.hd (σ (o.iA X.length))) o) (TF w2 (Ey B w0 l g R Q (.slice (some ⟨gh,0,none⟩) X.length hvc) Hs nv X w.heap.size o (fun S' ls er=>∃W0 v,Iy W0 S (σ (o.iA X.length)) n o.s S' v er ls))) (fun _ v=>∃v0 er,v=.tuple #[v0,.int .i64 er]) 19 (by kernel_rfl) (by kernel_rfl) (Aj (rJ HA2.out HK2.out hgh) (Gi HHl.out hhd)) (kL pq) (ak _ _) ?_
  simp only [mD,mr,l9,lZ]
  repeat (first
   | (refine RV.aN (by rfl) (by rfl) (fun K hK=>?_);go_big_quiet_step (fail);refine az ?_;refine hK.out _ ?_;clear hK K)
   | (refine RV.aK (by rfl) ?_;simp only [Act.put,dL,dK,dJ]))
  refine RV.dM (by rfl) (by rfl) (fun w=>by go_simp;exact⟨rfl,rfl⟩) (⟨_,.slice none 0 0,0,rfl⟩) (fun X wx hx=>?_) (fun v hv=>?_)
  ·refine(Pj (jF (HA2.out.still hx)) HT.out.ok.lk _ n hn (HT.out.ok.nd _ n hn).al o.s).mono ?_
   intro e wy hy
   obtain⟨v,rfl,hsh,hr⟩:=wG (HA2.out.still hx) (HK2.out.below hx) hy
   exact⟨v,rfl,hsh,hr⟩
  obtain⟨v,er,rfl⟩:=hv
  simp only [Act.put,dL,dK,dJ]
  repeat (first
   | (refine RV.aN (by rfl) (by rfl) (fun K hK=>?_);go_big_quiet_step (fail);refine az ?_;refine hK.out _ ?_;clear hK K)
   | (refine RV.aK (by rfl) ?_;simp only [Act.put,dL,dK,dJ]))
  refine RV.eH ?_
  intro w5 hF
  obtain⟨S',sv',fv',v',ts,er',he,hres,hA5,hK5⟩:=hF
  simp only [gy,gK,iL,fG,iq,jX,je] at he
  obtain⟨rfl,rfl⟩:=he
  have HA5:=ae hA5
  have HK5:=ae hK5
  have HRes:=ae hres
  clear y0 y2 y3 z4 hne hA5 hK5 hres
  obtain⟨gm,capm,rfl⟩:=(lG HA5.out.tail).W.shape hHp
  go_upto_region 61 with fail
  haveI hne:Nonempty (dS (uZ g R Q w.heap.size (.slice (some ⟨gh,0,none⟩) X.length hvc) o)):=⟨⟨w5,bF HA5.out.tail,HK5.out⟩⟩
  have y1:=fun(x:dS (uZ g R Q w.heap.size (.slice (some ⟨gh,0,none⟩) X.length hvc) o))=>x.h.bk.cell 1
  have z4:=fun(x:dS (uZ g R Q w.heap.size (.slice (some ⟨gh,0,none⟩) X.length hvc) o))=>x.h.bx.cell 4
  simp only [opC,fQ,fP] at y1 z4
  refine qP (uZ g R Q w.heap.size (.slice (some ⟨gh,0,none⟩) X.length hvc) o) (TF w5 (Iu B w0 l g R Q (.slice (some ⟨gh,0,none⟩) X.length hvc) Hs S' sv' fv' v ts w.heap.size o (Ci (ms X) (o.iA X.length) m o.s))) (fun _ v=>∃v0 er,v=.tuple #[v0,.int .i64 er]) 13 (by kernel_rfl) (by kernel_rfl) (Aj (fun w' h=>⟨(bF HA5.out.tail).below h,HK5.out.below h⟩) (fun v w' h=>by obtain⟨X',nv',v2,rs,en,e,hr,hA,ho,hk⟩:=h;exact⟨bF hA.tail,hk⟩)) (kL xZ) (ak _ _) ?_
  simp only [mD,mr,l9,lZ]
  repeat (first
   | (refine RV.aN (by rfl) (by rfl) (fun K hK=>?_);go_big_quiet_step (fail);refine az ?_;refine hK.out _ ?_;clear hK K)
   | (refine RV.aK (by rfl) ?_;simp only [Act.put,dL,dK,dJ]))
  refine RV.dM (by rfl) (by rfl) (fun w=>by go_simp;exact⟨rfl,rfl⟩) (⟨_,.slice none 0 0,0,rfl⟩) (fun X wx hx=>?_) (fun v hv=>?_)
  ·refine(EJ (lG (HA5.out.still hx).tail) (by omega) hm (by have:=HT.out.tw.ma _ m hm;omega) o.s).mono ?_
   intro e wy hy
   obtain⟨v,rfl,hsh,hr⟩:=wQ (HA5.out.still hx) (HK5.out.below hx) hy
   exact⟨v,rfl,hsh,hr⟩
  obtain⟨v2,en,rfl⟩:=hv
  simp only [Act.put,dL,dK,dJ]
  repeat (first
   | (refine RV.aN (by rfl) (by rfl) (fun K hK=>?_);go_big_quiet_step (fail);refine az ?_;refine hK.out _ ?_;clear hK K)
   | (refine RV.aK (by rfl) ?_;simp only [Act.put,dL,dK,dJ]))
  refine RV.eH ?_
  intro w7 hF
  have hF:Iu B w0 l g R Q (.slice (some ⟨gh,0,none⟩) X.length hvc) Hs S' sv' fv' v ts w.heap.size o (Ci (ms X) (o.iA X.length) m o.s) (.tuple #[v2,.int .i64 en]) w7:=hF
  clear y1 z4 hne
  obtain⟨X',nv',v2',rs,en',he,hmr,hA7,ho7,_⟩:=hF
  simp only [gy,gK,iL,fG,iq,jX,je] at he
  obtain⟨rfl,rfl⟩:=he
  have HMr:=ae hmr
  have HA7:=ae hA7
  have HO7:=ae ho7
  obtain⟨v2a,v2c,rfl⟩:=aW ho7
  clear hmr ho7 hA7
  have hB:=QN HT.out.ok HT.out.tw HT.out.cl hm hn HRes.out HMr.out
  obtain⟨ts',hts,htl,hex,hmq⟩:=hB.I7
  obtain rfl:=qR hts
  have HB:=ae hB
  clear hB hts
  by_cases hee:er=en
  case neg =>
   have hd1:(er == en)=false:=by simpa using hee
   have hnx:¬ex:=fun h=>hee (hex h).1
   clear hex hmq
   go_wp2_with fail
   go_ret2
   exact ku HT.out HB.out HA7.out HHs.out (fun h=>absurd h hnx) (.Sl m _ rs _ hk (by rw [aY];exact hm) (by rw [aY];exact HMr.out)) (by omega)
  have HMq:=ae (um HA7.out HHs.out (by rw [aY];omega) htl (hmq hee) HO7.out)
  have HEx:=ae hex
  subst hee
  clear hex hmq
  obtain⟨va7,vc7,hv7⟩:=aW (show Own w7 41 11 v ts.length (rows encR ts) from HA7.out.head)
  subst hv7
  go_wp2_with fail
  refine HMq.out.mono ?_
  rintro e w8 ⟨bq,rfl,hbq,hb8⟩
  have HA8:=ae (HA7.out.still hb8)
  have HBq:=ae hbq
  clear hb8 hbq
  go_wp2_with fail
  go_ret2
  exact ku HT.out HB.out HA8.out HHs.out (fun h=>⟨HBq.out (HEx.out h).2,(HEx.out h).2⟩) (.Sl m _ rs _ hk (by rw [aY];exact hm) (by rw [aY];exact HMr.out)) (by omega)
theorem UA {ex:Prop}{E:Nat→Prop}{c x:Nat}{B:Nat}{w0 w:World}{l:List Ob}{g R Q:Nat}{hv sv fv nv:Value}{S:Tr}{K:Nat→List Nat}{d:Nat→Nat}{X:List MX}{σ : Nat→Nat}
  (hLd:Laid w)(h:All B w0 (kK g R Q hv (iZ S σ (ms X)) S sv fv nv X ++ l) w)(T:CX ex E c x S K d (ms X) σ)(hX:X.length≤600)(hx:x≤2000)(hce:ex→c≤60)(hc6:c≤200)(o:ou)(ho:o.Ok)(hk:o.k % 10=7) :
  Calls Tryz.prog 13 #[.pointer (some ⟨g,0,none⟩),.agg (opC o).toArray] w (E8 ex E c x B w0 l g R Q S K d (ms X) σ o):=by
 have hD:=uD h T hX hx ho
 obtain⟨Hs,hHs⟩:∃Hs,Hs=iZ S σ (ms X):=⟨_,rfl⟩
 rw [← hHs] at h
 have hHl:Hs.length=X.length:=by rw [hHs,jJ,aY]
 have hHp:0 < X.length:=hD.pos
 obtain⟨hva,hvc,hvv⟩:=aW (lL h)
 rw [hHl] at hvv
 subst hvv
 have HAl:=ae h
 have HT:=ae T
 have HO:=ae ho
 have HHs:=ae hHs
 have HHl:=ae hHl
 have HLd:=ae hLd
 have hbk:=bF h
 have g1:=hbk.cell 1
 have g2:=hbk.cell 2
 simp only [fQ,fP] at g1 g2
 have hgl:=hbk.lt
 have hgz:=hbk.free
 have hb1:=(ak w.heap.size w).alloc (au _) (.cells (opC o).toArray 39)
 have k1:=dD.new w (opC o) 39
 have hra:(o.a:Int) % (X.length:Int)=((o.iA X.length:Nat):Int):=rfl
 have hrb:(o.b:Int) % (X.length:Int)=((o.iB X.length:Nat):Int):=rfl
 have hrc:=ru o (n:=X.length) (by omega)
 have hrk:(o.k:Int) % 10=7:=by omega
 have hal:o.iA X.length < X.length:=jr _ hHp
 have hbl:o.iB X.length < X.length:=jr _ hHp
 have hn0:¬(X.length:Int)=0:=by omega
 have hn1:¬(X.length:Int)+1=0:=by omega
 have hoa:=ho.a
 have hwn:wrap64 o.n=o.n:=XU _ (by have:=ho.n;omega)
 have hwk:wrap64 o.kk=o.kk:=XU _ (by have:=ho.kk;omega)
 have hob:=ho.b
 have hoc:=ho.c
 have hok:=ho.k
 have HHas:=ae (fun wx (hb:Below w.heap.size w wx) i (hi:i≤1000000)=>BV (h.still hb) i hi (by have:=hD.pos;omega))
 clear h T ho hHs hbk hLd
 simp only [opC] at k1 hb1 ⊢
 go_enter Tryz.func13,Tryz.ntmps13
 go_upto_region 2 with fail
 generalize w.alloc (.cells #[.int .u8 o.k,.int .u8 o.a,.int .u8 o.b,.int .u8 o.c,.string ⟨o.s.toArray⟩,.string ⟨o.t.toArray⟩,.int .i8 o.n,.int .i8 o.kk] 39)=w1 at *
 have hne:=gI w1
 have x1:=fun(x:dS (jc w1))=>(k1.below x.h).cell 1
 have x2:=fun(x:dS (jc w1))=>(k1.below x.h).cell 2
 have x3:=fun(x:dS (jc w1))=>(k1.below x.h).cell 3
 simp only [fQ,fP] at x1 x2 x3
 refine mW (fun _ _=>True) (fun _ _=>True) 20 (by kernel_rfl) (by kernel_rfl) (fun _ _ _ _ _=>trivial) trivial ?_
 simp only [mD,mr,l9,lZ]
 repeat (first
  | (refine RV.aN (by rfl) (by rfl) (fun K hK=>?_);go_big_quiet_step (fail);refine az ?_;refine hK.out _ ?_;clear hK K)
  | (refine RV.aK (by rfl) ?_;simp only [Act.put,dL,dK,dJ]))
 refine RV.eH ?_
 intro w2 hb2' _
 have HB2:=ae (aV hb1 hb2')
 have HK2:=ae (k1.below hb2')
 clear x1 x2 x3 hne hb1 hb2' k1 g1 g2 hHl
 rw [hra,hrb,hrc]
 have HA2:=ae (HAl.out.still HB2.out)
 have c0:=HK2.out.cell 0
 have g1:=(bF HA2.out).cell 1
 have g2:=(bF HA2.out).cell 2
 simp only [fQ,fP] at c0 g1 g2
 have hgl2:=(bF HA2.out).lt
 have hgz2:=(bF HA2.out).free
 have hxl2:=HK2.out.lt
 clear hgl hgz
 go_wp2_with fail
 refine(HHas.out w2 HB2.out _ (by omega)).mono ?_
 rintro e w3 ⟨rfl,hw⟩
 rw [hw]
 clear hw
 obtain⟨hd,hhd,hho,hcase⟩:=zI HT.out (i:=o.iA X.length) (by rw [aY];exact hal)
 rw [← HHs.out] at hhd
 obtain⟨gh,rfl,hghl,hgh⟩:=jk HA2.out HHl.out _ _ hhd
 have hai:(o.iA X.length:Int) < (X.length:Int):=by omega
 rcases hcase with ⟨m,n,hm,hn,rfl⟩ | ⟨hm,rfl,hix⟩
 case inr =>
  rw [hm]
  go_upto_region 65 with fail
  have hne:=gI w2
  have y0:=fun(x:dS (jc w2))=>(bF (HA2.out.still x.h)).cell 0
  have y2:=fun(x:dS (jc w2))=>(bF (HA2.out.still x.h)).cell 2
  have y3:=fun(x:dS (jc w2))=>aU x.h hgh
  have z5:=fun(x:dS (jc w2))=>(HK2.out.below x.h).cell 5
  have z6:=fun(x:dS (jc w2))=>(HK2.out.below x.h).cell 6
  have z7:=fun(x:dS (jc w2))=>(HK2.out.below x.h).cell 7
  simp only [fQ,fP] at y0 y2 z5 z6 z7
  refine mW (fun _ _=>True) (fun _ v=>v=.tuple #[.slice none 0 0,.int .i64 6]) 25 (by kernel_rfl) (by kernel_rfl) (fun _ _ _ _ _=>trivial) trivial ?_
  simp only [mD,mr,l9,lZ]
  repeat (first
   | (refine RV.aN (by rfl) (by rfl) (fun K hK=>?_);go_big_quiet_step (fail);refine az ?_;refine hK.out _ ?_;clear hK K)
   | (refine RV.aK (by rfl) ?_;simp only [Act.put,dL,dK,dJ]))
  refine RV.dM (by rfl) (by rfl) (fun w=>by go_simp;exact⟨rfl,rfl⟩) (⟨_,rfl⟩) (fun X wx hx=>?_) (fun v hv=>?_)
  ·refine(GL (jF (HA2.out.still hx.1)) (-1) hho hix _ _ _).mono ?_
   rintro e wy ⟨rfl,hb⟩
   exact⟨_,rfl,rfl,aV hx.1 hb,trivial⟩
  obtain rfl:v=.tuple #[.slice none 0 0,.int .i64 6]:=hv
  simp only [Act.put,dL,dK,dJ]
  repeat (first
   | (refine RV.aN (by rfl) (by rfl) (fun K hK=>?_);go_big_quiet_step (fail);refine az ?_;refine hK.out _ ?_;clear hK K)
   | (refine RV.aK (by rfl) ?_;simp only [Act.put,dL,dK,dJ]))
  refine RV.eH ?_
  intro w5 hb5 _
  have HA5:=ae (HA2.out.still hb5)
  clear y0 y2 y3 z5 z6 z7 hne hb5
  go_wp2_with fail
  go_ret2
  exact uC HT.out HA5.out HHs.out (by omega) (.inl (by rw [aY];exact hm)) (by omega)
 case inl =>
  rw [hm]
  go_upto_region 65 with fail
  haveI hne:Nonempty (dS (wu g R Q gh (o.iA X.length) w.heap.size (.slice (some ⟨gh,0,none⟩) X.length hvc) (S.hd (σ (o.iA X.length))) o)):=⟨⟨w2,rJ HA2.out HK2.out hgh w2 (ak _ _)⟩⟩
  have y0:=fun(x:dS (wu g R Q gh (o.iA X.length) w.heap.size (.slice (some ⟨gh,0,none⟩) X.length hvc) (S.hd (σ (o.iA X.length))) o))=>x.h.bk.cell 0
  have y2:=fun(x:dS (wu g R Q gh (o.iA X.length) w.heap.size (.slice (some ⟨gh,0,none⟩) X.length hvc) (S.hd (σ (o.iA X.length))) o))=>x.h.bk.cell 2
  have y3:=fun(x:dS (wu g R Q gh (o.iA X.length) w.heap.size (.slice (some ⟨gh,0,none⟩) X.length hvc) (S.hd (σ (o.iA X.length))) o))=>x.h.hc
  have z5:=fun(x:dS (wu g R Q gh (o.iA X.length) w.heap.size (.slice (some ⟨gh,0,none⟩) X.length hvc) (S.hd (σ (o.iA X.length))) o))=>x.h.bx.cell 5
  have z6:=fun(x:dS (wu g R Q gh (o.iA X.length) w.heap.size (.slice (some ⟨gh,0,none⟩) X.length hvc) (S.hd (σ (o.iA X.length))) o))=>x.h.bx.cell 6
  have z7:=fun(x:dS (wu g R Q gh (o.iA X.length) w.heap.size (.slice (some ⟨gh,0,none⟩) X.length hvc) (S.hd (σ (o.iA X.length))) o))=>x.h.bx.cell 7
  simp only [opC,fQ,fP] at y0 y2 z5 z6 z7
  refine qP (wu g R Q gh (o.iA X.length) w.heap.size (.slice (some ⟨gh,0,none⟩) X.length hvc) (S.hd (σ (o.iA X.length))) o) (TF w2 (Ey B w0 l g R Q (.slice (some ⟨gh,0,none⟩) X.length hvc) Hs nv X w.heap.size o (fun S' ls er=>∃v,uJ S (σ (o.iA X.length)) n o.n o.kk o.t S' v er ls))) (fun _ v=>∃v0 er,v=.tuple #[v0,.int .i64 er]) 25 (by kernel_rfl) (by kernel_rfl) (Aj (rJ HA2.out HK2.out hgh) (Gi HHl.out hhd)) (kL pq) (ak _ _) ?_
  simp only [mD,mr,l9,lZ]
  repeat (first
   | (refine RV.aN (by rfl) (by rfl) (fun K hK=>?_);go_big_quiet_step (fail);refine az ?_;refine hK.out _ ?_;clear hK K)
   | (refine RV.aK (by rfl) ?_;simp only [Act.put,dL,dK,dJ]))
  refine RV.dM (by rfl) (by rfl) (fun w=>by go_simp;exact⟨rfl,rfl⟩) (⟨_,.slice none 0 0,0,rfl⟩) (fun X wx hx=>?_) (fun v hv=>?_)
  ·refine(O9 (jF (HA2.out.still hx)) HT.out.ok.lk _ n hn (HT.out.ok.nd _ n hn).kd (by have:=(HT.out.ok.nd _ n hn).dl;omega) o.n o.kk (by have:=HO.out.n;omega) (by have:=HO.out.n;omega) (by have:=HO.out.kk;omega) (by have:=HO.out.kk;omega) o.t (by have:=HO.out.t;omega) ((HLd.out.below HB2.out).below hx)).mono ?_
   intro e wy hy
   obtain⟨v,rfl,hsh,hr⟩:=wG (HA2.out.still hx) (HK2.out.below hx) hy
   exact⟨v,rfl,hsh,hr⟩
  obtain⟨v,er,rfl⟩:=hv
  simp only [Act.put,dL,dK,dJ]
  repeat (first
   | (refine RV.aN (by rfl) (by rfl) (fun K hK=>?_);go_big_quiet_step (fail);refine az ?_;refine hK.out _ ?_;clear hK K)
   | (refine RV.aK (by rfl) ?_;simp only [Act.put,dL,dK,dJ]))
  refine RV.eH ?_
  intro w5 hF
  obtain⟨S',sv',fv',v',ts,er',he,hres,hA5,hK5⟩:=hF
  simp only [gy,gK,iL,fG,iq,jX,je] at he
  obtain⟨rfl,rfl⟩:=he
  have HA5:=ae hA5
  have HK5:=ae hK5
  have HRes:=ae hres
  clear y0 y2 y3 z5 z6 z7 hne hA5 hK5 hres
  obtain⟨gm,capm,rfl⟩:=(lG HA5.out.tail).W.shape hHp
  go_upto_region 69 with fail
  haveI hne:Nonempty (dS (uZ g R Q w.heap.size (.slice (some ⟨gh,0,none⟩) X.length hvc) o)):=⟨⟨w5,bF HA5.out.tail,HK5.out⟩⟩
  have y1:=fun(x:dS (uZ g R Q w.heap.size (.slice (some ⟨gh,0,none⟩) X.length hvc) o))=>x.h.bk.cell 1
  have z5:=fun(x:dS (uZ g R Q w.heap.size (.slice (some ⟨gh,0,none⟩) X.length hvc) o))=>x.h.bx.cell 5
  have z6:=fun(x:dS (uZ g R Q w.heap.size (.slice (some ⟨gh,0,none⟩) X.length hvc) o))=>x.h.bx.cell 6
  have z7:=fun(x:dS (uZ g R Q w.heap.size (.slice (some ⟨gh,0,none⟩) X.length hvc) o))=>x.h.bx.cell 7
  simp only [opC,fQ,fP] at y1 z5 z6 z7
  refine qP (uZ g R Q w.heap.size (.slice (some ⟨gh,0,none⟩) X.length hvc) o) (TF w5 (Iu B w0 l g R Q (.slice (some ⟨gh,0,none⟩) X.length hvc) Hs S' sv' fv' v ts w.heap.size o (Ce (ms X) (o.iA X.length) m o.n o.kk o.t))) (fun _ v=>∃v0 er,v=.tuple #[v0,.int .i64 er]) 19 (by kernel_rfl) (by kernel_rfl) (Aj (fun w' h=>⟨(bF HA5.out.tail).below h,HK5.out.below h⟩) (fun v w' h=>by obtain⟨X',nv',v2,rs,en,e,hr,hA,ho,hk⟩:=h;exact⟨bF hA.tail,hk⟩)) (kL xZ) (ak _ _) ?_
  simp only [mD,mr,l9,lZ]
  repeat (first
   | (refine RV.aN (by rfl) (by rfl) (fun K hK=>?_);go_big_quiet_step (fail);refine az ?_;refine hK.out _ ?_;clear hK K)
   | (refine RV.aK (by rfl) ?_;simp only [Act.put,dL,dK,dJ]))
  refine RV.dM (by rfl) (by rfl) (fun w=>by go_simp;exact⟨rfl,rfl⟩) (⟨_,.slice none 0 0,0,rfl⟩) (fun X wx hx=>?_) (fun v hv=>?_)
  ·refine(Ha (lG (HA5.out.still hx).tail) (by omega) hm (by obtain⟨n1,e1,_,_,e2,_⟩:=HT.out.tw.node _ m hm;rw [hn] at e1;cases e1;rw [← e2];have:=(HT.out.ok.nd _ n hn).dl;omega) o.n o.kk (by have:=HO.out.n;omega) (by have:=HO.out.n;omega) (by have:=HO.out.kk;omega) (by have:=HO.out.kk;omega) o.t (by have:=HO.out.t;omega)).mono ?_
   intro e wy hy
   obtain⟨v,rfl,hsh,hr⟩:=wQ (HA5.out.still hx) (HK5.out.below hx) hy
   exact⟨v,rfl,hsh,hr⟩
  obtain⟨v2,en,rfl⟩:=hv
  simp only [Act.put,dL,dK,dJ]
  repeat (first
   | (refine RV.aN (by rfl) (by rfl) (fun K hK=>?_);go_big_quiet_step (fail);refine az ?_;refine hK.out _ ?_;clear hK K)
   | (refine RV.aK (by rfl) ?_;simp only [Act.put,dL,dK,dJ]))
  refine RV.eH ?_
  intro w7 hF
  have hF:Iu B w0 l g R Q (.slice (some ⟨gh,0,none⟩) X.length hvc) Hs S' sv' fv' v ts w.heap.size o (Ce (ms X) (o.iA X.length) m o.n o.kk o.t) (.tuple #[v2,.int .i64 en]) w7:=hF
  clear y1 z5 z6 z7 hne
  obtain⟨X',nv',v2',rs,en',he,hmr,hA7,ho7,_⟩:=hF
  simp only [gy,gK,iL,fG,iq,jX,je] at he
  obtain⟨rfl,rfl⟩:=he
  have HMr:=ae hmr
  have HA7:=ae hA7
  have HO7:=ae ho7
  obtain⟨v2a,v2c,rfl⟩:=aW ho7
  clear hmr ho7 hA7
  have hB:=QL HT.out.ok HT.out.tw HT.out.cl (by omega) hm hn HRes.out HMr.out (by have:=HO.out.t;omega)
  obtain⟨ts',hts,htl,hex,hmq⟩:=hB.I7
  obtain rfl:=qR hts
  have HB:=ae hB
  clear hB hts
  by_cases hee:er=en
  case neg =>
   have hd1:(er == en)=false:=by simpa using hee
   have hnx:¬ex:=fun h=>hee (hex h).1
   clear hex hmq
   go_wp2_with fail
   go_ret2
   exact ku HT.out HB.out HA7.out HHs.out (fun h=>absurd h hnx) (.rep m _ rs _ hk (by rw [aY];exact hm) (by rw [aY];exact HMr.out)) (by omega)
  have HMq:=ae (um HA7.out HHs.out (by rw [aY];omega) htl (hmq hee) HO7.out)
  have HEx:=ae hex
  subst hee
  clear hex hmq
  obtain⟨va7,vc7,hv7⟩:=aW (show Own w7 41 11 v ts.length (rows encR ts) from HA7.out.head)
  subst hv7
  go_wp2_with fail
  refine HMq.out.mono ?_
  rintro e w8 ⟨bq,rfl,hbq,hb8⟩
  have HA8:=ae (HA7.out.still hb8)
  have HBq:=ae hbq
  clear hb8 hbq
  go_wp2_with fail
  go_ret2
  exact ku HT.out HB.out HA8.out HHs.out (fun h=>⟨HBq.out (HEx.out h).2,(HEx.out h).2⟩) (.rep m _ rs _ hk (by rw [aY];exact hm) (by rw [aY];exact HMr.out)) (by omega)
def jV:Nd:=⟨0,[],.slice none 0 0,[],[],0,0,0,0,0⟩
theorem KD {fn:Func}(h:fn.results=#[.cell 4 62,.tmp 5]){tmps:Array Value}{w:World}{r:Nat}{n:Nd}(hp:tmps.getD 4 undef=.pointer (some ⟨r,0,none⟩))(hk:dD w r (jd n) 62) :
  (results fn tmps).run Tryz.prog w=.ok (.tuple #[.agg (jd n).toArray,tmps.getD 5 undef]) w:=by
 have c0:=hk.cell 0
 have c1:=hk.cell 1
 have c2:=hk.cell 2
 have c3:=hk.cell 3
 have c4:=hk.cell 4
 have c5:=hk.cell 5
 have c6:=hk.cell 6
 have c7:=hk.cell 7
 have c8:=hk.cell 8
 simp only [jd,fQ,fP] at c0 c1 c2 c3 c4 c5 c6 c7 c8
 rw [Array.getD_eq_getD_getElem?] at hp
 simp [results,h,hp,go_sem,jd,c0,c1,c2,c3,c4,c5,c6,c7,c8]
theorem dD.over {w:World}{r:Nat}{a:List Value}(n:Nd)(k:dD w r a 62)(ha:a.length=9) :
  dD (((((((((w.setCell ⟨r,0,none⟩ (.int .i64 n.kind)).setCell ⟨r,1,none⟩ (dA n.name)).setCell ⟨r,2,none⟩ n.av).setCell ⟨r,3,none⟩ (dA n.data)).setCell ⟨r,4,none⟩ (.int .i64 n.parent)).setCell ⟨r,5,none⟩ (.int .i64 n.first)).setCell ⟨r,6,none⟩ (.int .i64 n.last)).setCell ⟨r,7,none⟩ (.int .i64 n.prev)).setCell ⟨r,8,none⟩ (.int .i64 n.next)) r (jd n) 62:=by
 have h9:=((((((((k.set 0 (.int .i64 n.kind)).set 1 (dA n.name)).set 2 n.av).set 3 (dA n.data)).set 4 (.int .i64 n.parent)).set 5 (.int .i64 n.first)).set 6 (.int .i64 n.last)).set 7 (.int .i64 n.prev)).set 8 (.int .i64 n.next)
 match a,ha with
 | [_,_,_,_,_,_,_,_,_],_=>simpa [jd] using h9
theorem Below.over {B:Nat}{w0 w:World}{r:Nat}(n:Nd)(h:Below B w0 w)(hr:B≤r) :
  Below B w0 (((((((((w.setCell ⟨r,0,none⟩ (.int .i64 n.kind)).setCell ⟨r,1,none⟩ (dA n.name)).setCell ⟨r,2,none⟩ n.av).setCell ⟨r,3,none⟩ (dA n.data)).setCell ⟨r,4,none⟩ (.int .i64 n.parent)).setCell ⟨r,5,none⟩ (.int .i64 n.first)).setCell ⟨r,6,none⟩ (.int .i64 n.last)).setCell ⟨r,7,none⟩ (.int .i64 n.prev)).setCell ⟨r,8,none⟩ (.int .i64 n.next)) :=
 (((((((((h.setCell (p:=⟨r,0,none⟩) hr _).setCell (p:=⟨r,1,none⟩) hr _).setCell (p:=⟨r,2,none⟩) hr _).setCell (p:=⟨r,3,none⟩) hr _).setCell (p:=⟨r,4,none⟩) hr _).setCell (p:=⟨r,5,none⟩) hr _).setCell (p:=⟨r,6,none⟩) hr _).setCell (p:=⟨r,7,none⟩) hr _).setCell (p:=⟨r,8,none⟩) hr _)
theorem get_some {B R g cap:Nat}{S:Tr}{fv:Value}{w:World}(h:fZ B R S (.slice (some ⟨g,0,none⟩) S.slots.length cap) fv w)(hd:Int)(hh:uY hd){k:Nat}(hk:S.ix hd=some k){n:Nd}(hn:S.slots[k]? = some (some n)) :
  Calls Tryz.prog 71 #[.pointer (some ⟨R,0,none⟩),.int .i64 hd] w fun e w'=>e=.returned (.tuple #[.agg (jd n).toArray,.bool true])∧Below w.heap.size w w':=by
 obtain⟨nk,nn,nav,nal,nda,np,nf,nl,npv,nx⟩:=n
 obtain⟨av,acap,hav,_⟩:=h.attrs k _ hn
 simp only [] at hav
 subst hav
 have HF:=ae (fun wx (hb:Below w.heap.size w wx)=>Ba (h.below hb) hd hh hk)
 have HT:=ae h
 have hgl:=(h.slots.lt g rfl).2
 obtain⟨_,hkl,_⟩:=zG hk
 have HN:=ae hn
 clear h hk hn
 have hb1:=(ak w.heap.size w).alloc (au _) (.cells (jd jV).toArray 62)
 have k1:=dD.new w (jd jV) 62
 go_enter Tryz.func71,Tryz.ntmps71
 go_wp2_with fail
 refine(HF.out _ hb1).mono ?_
 rintro e w2 ⟨rfl,hb2⟩
 have k2:=dD.below k1 hb2
 have HB2:=ae (aV hb1 hb2)
 have hT2:=HT.out.below HB2.out
 have s1:=dm hT2 HN.out 1 (by omega)
 have s2:=dm hT2 HN.out 2 (by omega)
 have s3:=dm hT2 HN.out 3 (by omega)
 have s4:=dm hT2 HN.out 4 (by omega)
 have s5:=dm hT2 HN.out 5 (by omega)
 have s6:=dm hT2 HN.out 6 (by omega)
 have s7:=dm hT2 HN.out 7 (by omega)
 have s8:=dm hT2 HN.out 8 (by omega)
 have s9:=dm hT2 HN.out 9 (by omega)
 simp only [jB,jd,dA,fQ,fP] at s1 s2 s3 s4 s5 s6 s7 s8 s9
 simp only [jd,jV,dA] at k2 ⊢
 have c0:=k2.cell 0
 have c1:=k2.cell 1
 have c2:=k2.cell 2
 have c3:=k2.cell 3
 have c4:=k2.cell 4
 have c5:=k2.cell 5
 have c6:=k2.cell 6
 have c7:=k2.cell 7
 have c8:=k2.cell 8
 have cf:=k2.free
 simp only [fQ,fP] at c0 c1 c2 c3 c4 c5 c6 c7 c8
 have hlt:=k2.lt
 have hne:g≠w.heap.size:=by omega
 have hg2:=(hT2.slots.lt g rfl).2
 clear k1 hb1 hb2 HF hT2
 go_wp2_with fail
 have k9:=dD.over ⟨nk,nn,.slice av nal.length acap,nal,nda,np,nf,nl,npv,nx⟩ k2 rfl
 have b9:=Below.over ⟨nk,nn,.slice av nal.length acap,nal,nda,np,nf,nl,npv,nx⟩ HB2.out (au w.heap.size)
 exact nZ (KD (by rfl) (by rfl) k9) rfl ⟨rfl,b9⟩
theorem yB {B:Nat}{w w':World}{v:Value}{l:List jR}(h:jA B w v l)(hb:Below w.heap.size w w'):jA B w' v l:=by
 obtain⟨a,c,e,h'⟩:=h
 refine⟨a,c,e,h'.imp id ?_⟩
 rintro⟨b,cur,e2,hB,hg,hc⟩
 exact⟨b,cur,e2,hB,(hb.block b (gp hg)).trans hg,hc⟩
theorem PR {B R:Nat}{w:World}(n:Nd)(b:Bool)(hd:Int)(HG:∀wx,Below w.heap.size w wx→Calls Tryz.prog 71 #[.pointer (some ⟨R,0,none⟩),.int .i64 hd] wx fun e w'=>e=.returned (.tuple #[.agg (jd n).toArray,.bool b])∧Below wx.heap.size wx w')
  (ha:jA B w n.av n.attrs)(hl:n.attrs.length≤1000)(hz:∀j,w.frozen? ⟨R,j,none⟩=false)(hR:R < w.heap.size) :
  Calls Tryz.prog 24 #[.pointer (some ⟨R,0,none⟩),.int .i64 hd] w fun e w'=>∃v',e=.returned (.tuple #[.agg (jd { n with av:=v' }).toArray,.bool b])∧w'.ownsRow w.heap.size 91 2 v' n.attrs.length (cu n.attrs)∧Below w.heap.size w w':=by
 obtain⟨nk,nn,nav,nal,nda,np,nf,nl,npv,nx⟩:=n
 obtain⟨av,acap,hav,_⟩:=id ha
 simp only [] at hav
 subst hav
 have HGe:=ae HG
 have HA:=ae (fun wx (hb:Below w.heap.size w wx)=>(show Calls Tryz.prog 61 #[.slice av nal.length acap] wx _ from uI (yB ha hb) hl))
 clear HG ha
 have hb1:=(ak w.heap.size w).alloc (au _) (.cells (jd jV).toArray 62)
 have k1:=dD.new w (jd jV) 62
 go_enter Tryz.func24,Tryz.ntmps24
 go_wp2_with fail
 refine(HGe.out _ hb1).mono ?_
 rintro e w2 ⟨rfl,hb2⟩
 simp only [jd,jV,dA] at k1 ⊢
 have k2:=dD.below k1 hb2
 have hb02:=aV hb1 hb2
 have k3:=k2.alloc (.cells #[.int .i64 nk,.string ⟨nn.toArray⟩,.slice av nal.length acap,.string ⟨nda.toArray⟩,.int .i64 np,.int .i64 nf,.int .i64 nl,.int .i64 npv,.int .i64 nx] 62)
 have kn:=dD.new w2 [.int .i64 nk,.string ⟨nn.toArray⟩,.slice av nal.length acap,.string ⟨nda.toArray⟩,.int .i64 np,.int .i64 nf,.int .i64 nl,.int .i64 npv,.int .i64 nx] 62
 have hb3:=hb02.alloc hb02.size (.cells #[.int .i64 nk,.string ⟨nn.toArray⟩,.slice av nal.length acap,.string ⟨nda.toArray⟩,.int .i64 np,.int .i64 nf,.int .i64 nl,.int .i64 npv,.int .i64 nx] 62)
 have hl2:=k2.lt
 have hne:w2.heap.size≠w.heap.size:=by omega
 clear k1 k2 hb1 hb2
 go_wp2_with fail
 generalize hr2:w2.heap.size=r2 at *
 generalize w2.alloc (.cells #[.int .i64 nk,.string ⟨nn.toArray⟩,.slice av nal.length acap,.string ⟨nda.toArray⟩,.int .i64 np,.int .i64 nf,.int .i64 nl,.int .i64 npv,.int .i64 nx] 62)=w3 at *
 refine(HA.out _ hb3).mono ?_
 rintro e w4 ⟨v',rfl,ho,hb4⟩
 obtain⟨va,vc,rfl⟩:=bP ho
 have ho0:w4.ownsRow w.heap.size 91 2 (.slice va nal.length vc) nal.length (cu nal):=FK (iD ho (aZ _)) (fun k hk=>aQ hb3.size (ho.lt k hk).1)
 have HO:=ae ho0
 have kA:=dD.below k3 hb4
 have kN:=dD.below kn hb4
 have HB4:=ae (aV hb3 hb4)
 have HKA:=ae kA
 have HKN:=ae kN
 have c0:=kA.cell 0
 have c1:=kA.cell 1
 have c2:=kA.cell 2
 have c3:=kA.cell 3
 have c4:=kA.cell 4
 have c5:=kA.cell 5
 have c6:=kA.cell 6
 have c7:=kA.cell 7
 have c8:=kA.cell 8
 have cf:=kA.free
 have d0:=kN.cell 0
 have d1:=kN.cell 1
 have d2:=kN.cell 2
 have d3:=kN.cell 3
 have d4:=kN.cell 4
 have d5:=kN.cell 5
 have d6:=kN.cell 6
 have d7:=kN.cell 7
 have d8:=kN.cell 8
 have df:=kN.free
 simp only [fQ,fP] at c0 c1 c2 c3 c4 c5 c6 c7 c8 d0 d1 d2 d3 d4 d5 d6 d7 d8
 clear hb3 hb4 hb02 k3 kn ho ho0 kA kN
 go_wp2_with fail
 have k5:=HKA.out.setOther ⟨r2,2,none⟩ (fun e=>hne e.symm) (.slice va nal.length vc)
 have k9:=dD.over ⟨nk,nn,.slice va nal.length vc,nal,nda,np,nf,nl,npv,nx⟩ k5 rfl
 have b9:=Below.over ⟨nk,nn,.slice va nal.length vc,nal,nda,np,nf,nl,npv,nx⟩ (HB4.out.setCell (p:=⟨r2,2,none⟩) (by show w.heap.size≤r2;omega) (.slice va nal.length vc)) (au w.heap.size)
 refine nZ (KD (by rfl) (by rfl) k9) rfl ⟨.slice va nal.length vc,rfl,?_,b9⟩
 refine gW HO.out (fun k hk=>?_)
 obtain⟨cur,hcur⟩:=gJ HO.out hk
 have n1:k≠w.heap.size:=fun e=>by subst e;exact dw hcur HKA.out (by decide) rfl
 have n2:k≠r2:=fun e=>by subst e;exact dw hcur HKN.out (by decide) rfl
 have e1:∀(wx:World) (j:Nat) (u:Value),(wx.setCell ⟨w.heap.size,j,none⟩ u).heap[k]? = wx.heap[k]?:=fun wx j u=>aF _ _ _ _ n1
 have e2:∀(wx:World) (j:Nat) (u:Value),(wx.setCell ⟨r2,j,none⟩ u).heap[k]? = wx.heap[k]?:=fun wx j u=>aF _ _ _ _ n2
 simp only [e1,e2]
theorem wM {B R:Nat}{S:Tr}{sv fv:Value}{w:World}(h:fZ B R S sv fv w)(hd:Int)(hh:uY hd){k:Nat}(hk:S.ix hd=some k){n:Nd}(hn:S.slots[k]? = some (some n))(hl:n.attrs.length≤1000) :
  Calls Tryz.prog 24 #[.pointer (some ⟨R,0,none⟩),.int .i64 hd] w fun e w'=>∃v',e=.returned (.tuple #[.agg (jd { n with av:=v' }).toArray,.bool true])∧w'.ownsRow w.heap.size 91 2 v' n.attrs.length (cu n.attrs)∧Below w.heap.size w w':=by
 obtain⟨_,hkl,_⟩:=zG hk
 obtain⟨g,cap,rfl⟩:=fO h (by omega)
 exact PR (R:=R) n true hd (fun wx hb=>get_some (h.below hb) hd hh hk hn) (h.attrs k n hn) hl h.blk.free h.blk.lt
end Go.Proofs.YtfelmdkeaacfeaaGreatDoor.W
end
