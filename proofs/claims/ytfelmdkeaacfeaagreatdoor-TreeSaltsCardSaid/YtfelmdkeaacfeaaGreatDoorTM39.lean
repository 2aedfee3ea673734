/- Texts joined: Do5 Do6 Do7. -/
import Derived.Test.YtfelmdkeaacfeaaGreatDoorTM1
import Derived.Test.YtfelmdkeaacfeaaGreatDoorTM36
set_option maxRecDepth 100000
set_option maxHeartbeats 40000000
set_option linter.unusedVariables false
set_option linter.unusedSimpArgs false
section
namespace Go.Proofs.YtfelmdkeaacfeaaGreatDoor.W
open Go.RowKit
theorem do_set {ex:Prop}{E:Nat→Prop}{c x:Nat}{B:Nat}{w0 w:World}{l:List Ob}{g R Q:Nat}{hv sv fv nv:Value}{S:Tr}{K:Nat→List Nat}{d:Nat→Nat}{X:List MX}{σ : Nat→Nat}
  (hLd:Laid w)(h:All B w0 (twL g R Q hv (hsOf S σ (ms X)) S sv fv nv X ++ l) w)(T:TwS ex E c x S K d (ms X) σ)(hX:X.length≤600)(hx:x≤2000)(hce:ex→c≤60)(hc6:c≤200)(o:OpV)(ho:o.Ok)(hk:o.k % 10=5) :
  Calls Tryz.prog 13 #[.pointer (some ⟨g,0,none⟩),.agg (opC o).toArray] w (DoR ex E c x B w0 l g R Q S K d (ms X) σ o):=by
 have hD:=doI_of h T hX hx ho
 obtain⟨Hs,hHs⟩:∃Hs,Hs=hsOf S σ (ms X):=⟨_,rfl⟩
 rw [← hHs] at h
 have hHl:Hs.length=X.length:=by rw [hHs,hsOf_len,ms_len]
 have hHp:0 < X.length:=hD.pos
 obtain⟨hva,hvc,hvv⟩:=own_shape (tw_hs h)
 rw [hHl] at hvv
 subst hvv
 have HAl:=Lib.hid h
 have HT:=Lib.hid T
 have HO:=Lib.hid ho
 have HHs:=Lib.hid hHs
 have HHl:=Lib.hid hHl
 have HLd:=Lib.hid hLd
 have hbk:=tw_bk h
 have g1:=hbk.cell 1
 have g2:=hbk.cell 2
 simp only [zzD,zzE] at g1 g2
 have hgl:=hbk.lt
 have hgz:=hbk.free
 have hb1:=(Below.refl w.heap.size w).alloc (Nat.le_refl _) (.cells (opC o).toArray 39)
 have k1:=Blk.new w (opC o) 39
 have hra:(o.a:Int) % (X.length:Int)=((o.iA X.length:Nat):Int):=rfl
 have hrb:(o.b:Int) % (X.length:Int)=((o.iB X.length:Nat):Int):=rfl
 have hrc:=wrap_iC o (n:=X.length) (by omega)
 have hrk:(o.k:Int) % 10=5:=by omega
 have hal:o.iA X.length < X.length:=Nat.mod_lt _ hHp
 have hbl:o.iB X.length < X.length:=Nat.mod_lt _ hHp
 have hn0:¬(X.length:Int)=0:=by omega
 have hn1:¬(X.length:Int)+1=0:=by omega
 have hoa:=ho.a
 have hob:=ho.b
 have hoc:=ho.c
 have hok:=ho.k
 have HHas:=Lib.hid (fun wx (hb:Below w.heap.size w wx) i (hi:i≤1000000)=>hasT (h.still hb) i hi (by have:=hD.pos;omega))
 clear h T ho hHs hbk hLd
 simp only [opC] at k1 hb1 ⊢
 go_enter Tryz.func13,Tryz.ntmps13
 go_upto_region 2 with fail
 generalize w.alloc (.cells #[.int .u8 o.k,.int .u8 o.a,.int .u8 o.b,.int .u8 o.c,.string ⟨o.s.toArray⟩,.string ⟨o.t.toArray⟩,.int .i8 o.n,.int .i8 o.kk] 39)=w1 at *
 have hne:=stb_ne w1
 have x1:=fun(x:InS (StB w1))=>(k1.below x.h).cell 1
 have x2:=fun(x:InS (StB w1))=>(k1.below x.h).cell 2
 have x3:=fun(x:InS (StB w1))=>(k1.below x.h).cell 3
 simp only [zzD,zzE] at x1 x2 x3
 refine reg_f (fun _ _=>True) (fun _ _=>True) 20 (by kernel_rfl) (by kernel_rfl) (fun _ _ _ _ _=>trivial) trivial ?_
 simp only [zzF,zzG,zzH,zzI]
 repeat (first
  | (refine RV.m_held (by rfl) (by rfl) (fun K hK=>?_);go_big_quiet_step (fail);refine wpQuiet_nil ?_;refine hK.out _ ?_;clear hK K)
  | (refine RV.m_skip (by rfl) ?_;simp only [Act.put,zzA,zzB,zzC]))
 refine RV.m_nil ?_
 intro w2 hb2' _
 have HB2:=Lib.hid (bthen hb1 hb2')
 have HK2:=Lib.hid (k1.below hb2')
 clear x1 x2 x3 hne hb1 hb2' k1 g1 g2 hHl
 rw [hra,hrb,hrc]
 have HA2:=Lib.hid (HAl.out.still HB2.out)
 have c0:=HK2.out.cell 0
 have g1:=(tw_bk HA2.out).cell 1
 have g2:=(tw_bk HA2.out).cell 2
 simp only [zzD,zzE] at c0 g1 g2
 have hgl2:=(tw_bk HA2.out).lt
 have hgz2:=(tw_bk HA2.out).free
 have hxl2:=HK2.out.lt
 clear hgl hgz
 go_wp2_with fail
 refine(HHas.out w2 HB2.out _ (by omega)).mono ?_
 rintro e w3 ⟨rfl,hw⟩
 rw [hw]
 clear hw
 obtain⟨hd,hhd,hho,hcase⟩:=hs_ok HT.out (i:=o.iA X.length) (by rw [ms_len];exact hal)
 rw [← HHs.out] at hhd
 obtain⟨gh,rfl,hghl,hgh⟩:=tw_hcell HA2.out HHl.out _ _ hhd
 have hai:(o.iA X.length:Int) < (X.length:Int):=by omega
 rcases hcase with ⟨m,n,hm,hn,rfl⟩ | ⟨hm,rfl,hix⟩
 case inr =>
  rw [hm]
  go_upto_region 49 with fail
  have hne:=stb_ne w2
  have y0:=fun(x:InS (StB w2))=>(tw_bk (HA2.out.still x.h)).cell 0
  have y2:=fun(x:InS (StB w2))=>(tw_bk (HA2.out.still x.h)).cell 2
  have y3:=fun(x:InS (StB w2))=>cell_keep x.h hgh
  have z4:=fun(x:InS (StB w2))=>(HK2.out.below x.h).cell 4
  have z5:=fun(x:InS (StB w2))=>(HK2.out.below x.h).cell 5
  simp only [zzD,zzE] at y0 y2 z4 z5
  refine reg_f (fun _ _=>True) (fun _ v=>v=.tuple #[.slice none 0 0,.int .i64 6]) 21 (by kernel_rfl) (by kernel_rfl) (fun _ _ _ _ _=>trivial) trivial ?_
  simp only [zzF,zzG,zzH,zzI]
  repeat (first
   | (refine RV.m_held (by rfl) (by rfl) (fun K hK=>?_);go_big_quiet_step (fail);refine wpQuiet_nil ?_;refine hK.out _ ?_;clear hK K)
   | (refine RV.m_skip (by rfl) ?_;simp only [Act.put,zzA,zzB,zzC]))
  refine RV.m_call (by rfl) (by rfl) (fun w=>by go_simp;exact⟨rfl,rfl⟩) (⟨_,rfl⟩) (fun X wx hx=>?_) (fun v hv=>?_)
  ·refine(setAttr_none (tw_tr (HA2.out.still hx.1)) (-1) hho hix _ _).mono ?_
   rintro e wy ⟨rfl,hb⟩
   exact⟨_,rfl,rfl,bthen hx.1 hb,trivial⟩
  obtain rfl:v=.tuple #[.slice none 0 0,.int .i64 6]:=hv
  simp only [Act.put,zzA,zzB,zzC]
  repeat (first
   | (refine RV.m_held (by rfl) (by rfl) (fun K hK=>?_);go_big_quiet_step (fail);refine wpQuiet_nil ?_;refine hK.out _ ?_;clear hK K)
   | (refine RV.m_skip (by rfl) ?_;simp only [Act.put,zzA,zzB,zzC]))
  refine RV.m_nil ?_
  intro w5 hb5 _
  have HA5:=Lib.hid (HA2.out.still hb5)
  clear y0 y2 y3 z4 z5 hne hb5
  go_wp2_with fail
  go_ret2
  exact do_off HT.out HA5.out HHs.out (by omega) (.inl (by rw [ms_len];exact hm)) (by omega)
 case inl =>
  rw [hm]
  go_upto_region 49 with fail
  haveI hne:Nonempty (InS (DoS g R Q gh (o.iA X.length) w.heap.size (.slice (some ⟨gh,0,none⟩) X.length hvc) (S.hd (σ (o.iA X.length))) o)):=⟨⟨w2,doS_0 HA2.out HK2.out hgh w2 (Below.refl _ _)⟩⟩
  have y0:=fun(x:InS (DoS g R Q gh (o.iA X.length) w.heap.size (.slice (some ⟨gh,0,none⟩) X.length hvc) (S.hd (σ (o.iA X.length))) o))=>x.h.bk.cell 0
  have y2:=fun(x:InS (DoS g R Q gh (o.iA X.length) w.heap.size (.slice (some ⟨gh,0,none⟩) X.length hvc) (S.hd (σ (o.iA X.length))) o))=>x.h.bk.cell 2
  have y3:=fun(x:InS (DoS g R Q gh (o.iA X.length) w.heap.size (.slice (some ⟨gh,0,none⟩) X.length hvc) (S.hd (σ (o.iA X.length))) o))=>x.h.hc
  have z4:=fun(x:InS (DoS g R Q gh (o.iA X.length) w.heap.size (.slice (some ⟨gh,0,none⟩) X.length hvc) (S.hd (σ (o.iA X.length))) o))=>x.h.bx.cell 4
  have z5:=fun(x:InS (DoS g R Q gh (o.iA X.length) w.heap.size (.slice (some ⟨gh,0,none⟩) X.length hvc) (S.hd (σ (o.iA X.length))) o))=>x.h.bx.cell 5
  simp only [opC,zzD,zzE] at y0 y2 z4 z5
  refine reg_g (DoS g R Q gh (o.iA X.length) w.heap.size (.slice (some ⟨gh,0,none⟩) X.length hvc) (S.hd (σ (o.iA X.length))) o) (TF w2 (TRes B w0 l g R Q (.slice (some ⟨gh,0,none⟩) X.length hvc) Hs nv X w.heap.size o (fun S' ls er=>∃W0 v,SetX W0 S (σ (o.iA X.length)) n o.s o.t S' v er ls))) (fun _ v=>∃v0 er,v=.tuple #[v0,.int .i64 er]) 21 (by kernel_rfl) (by kernel_rfl) (tf_S (doS_0 HA2.out HK2.out hgh) (doS_1 HHl.out hhd)) (tf_below tres_below) (Below.refl _ _) ?_
  simp only [zzF,zzG,zzH,zzI]
  repeat (first
   | (refine RV.m_held (by rfl) (by rfl) (fun K hK=>?_);go_big_quiet_step (fail);refine wpQuiet_nil ?_;refine hK.out _ ?_;clear hK K)
   | (refine RV.m_skip (by rfl) ?_;simp only [Act.put,zzA,zzB,zzC]))
  refine RV.m_call (by rfl) (by rfl) (fun w=>by go_simp;exact⟨rfl,rfl⟩) (⟨_,.slice none 0 0,0,rfl⟩) (fun X wx hx=>?_) (fun v hv=>?_)
  ·refine(tset_any (tw_tr (HA2.out.still hx)) HT.out.ok.lk _ n hn (HT.out.ok.nd _ n hn).al o.s o.t (by have:=HO.out.s;omega) (by have:=HO.out.t;omega) ((HLd.out.below HB2.out).below hx)).mono ?_
   intro e wy hy
   obtain⟨v,rfl,hsh,hr⟩:=tres_of (HA2.out.still hx) (HK2.out.below hx) hy
   exact⟨v,rfl,hsh,hr⟩
  obtain⟨v,er,rfl⟩:=hv
  simp only [Act.put,zzA,zzB,zzC]
  repeat (first
   | (refine RV.m_held (by rfl) (by rfl) (fun K hK=>?_);go_big_quiet_step (fail);refine wpQuiet_nil ?_;refine hK.out _ ?_;clear hK K)
   | (refine RV.m_skip (by rfl) ?_;simp only [Act.put,zzA,zzB,zzC]))
  refine RV.m_nil ?_
  intro w5 hF
  obtain⟨S',sv',fv',v',ts,er',he,hres,hA5,hK5⟩:=hF
  simp only [Value.tuple.injEq,List.toArray_inj,Array.mk.injEq,List.cons.injEq,Value.int.injEq,and_true,true_and] at he
  obtain⟨rfl,rfl⟩:=he
  have HA5:=Lib.hid hA5
  have HK5:=Lib.hid hK5
  have HRes:=Lib.hid hres
  clear y0 y2 y3 z4 z5 hne hA5 hK5 hres
  obtain⟨gm,capm,rfl⟩:=(tw_md HA5.out.tail).W.shape hHp
  go_upto_region 53 with fail
  haveI hne:Nonempty (InS (DoM g R Q w.heap.size (.slice (some ⟨gh,0,none⟩) X.length hvc) o)):=⟨⟨w5,tw_bk HA5.out.tail,HK5.out⟩⟩
  have y1:=fun(x:InS (DoM g R Q w.heap.size (.slice (some ⟨gh,0,none⟩) X.length hvc) o))=>x.h.bk.cell 1
  have z4:=fun(x:InS (DoM g R Q w.heap.size (.slice (some ⟨gh,0,none⟩) X.length hvc) o))=>x.h.bx.cell 4
  have z5:=fun(x:InS (DoM g R Q w.heap.size (.slice (some ⟨gh,0,none⟩) X.length hvc) o))=>x.h.bx.cell 5
  simp only [opC,zzD,zzE] at y1 z4 z5
  refine reg_g (DoM g R Q w.heap.size (.slice (some ⟨gh,0,none⟩) X.length hvc) o) (TF w5 (MRes B w0 l g R Q (.slice (some ⟨gh,0,none⟩) X.length hvc) Hs S' sv' fv' v ts w.heap.size o (MSet (ms X) (o.iA X.length) m o.s o.t))) (fun _ v=>∃v0 er,v=.tuple #[v0,.int .i64 er]) 15 (by kernel_rfl) (by kernel_rfl) (tf_S (fun w' h=>⟨(tw_bk HA5.out.tail).below h,HK5.out.below h⟩) (fun v w' h=>by obtain⟨X',nv',v2,rs,en,e,hr,hA,ho,hk⟩:=h;exact⟨tw_bk hA.tail,hk⟩)) (tf_below mres_below) (Below.refl _ _) ?_
  simp only [zzF,zzG,zzH,zzI]
  repeat (first
   | (refine RV.m_held (by rfl) (by rfl) (fun K hK=>?_);go_big_quiet_step (fail);refine wpQuiet_nil ?_;refine hK.out _ ?_;clear hK K)
   | (refine RV.m_skip (by rfl) ?_;simp only [Act.put,zzA,zzB,zzC]))
  refine RV.m_call (by rfl) (by rfl) (fun w=>by go_simp;exact⟨rfl,rfl⟩) (⟨_,.slice none 0 0,0,rfl⟩) (fun X wx hx=>?_) (fun v hv=>?_)
  ·refine(msetAttr_any (tw_md (HA5.out.still hx).tail) (by omega) hm (by have:=HT.out.tw.ma _ m hm;omega) o.s o.t (by have:=HO.out.s;omega) (by have:=HO.out.t;omega)).mono ?_
   intro e wy hy
   obtain⟨v,rfl,hsh,hr⟩:=mres_of (HA5.out.still hx) (HK5.out.below hx) hy
   exact⟨v,rfl,hsh,hr⟩
  obtain⟨v2,en,rfl⟩:=hv
  simp only [Act.put,zzA,zzB,zzC]
  repeat (first
   | (refine RV.m_held (by rfl) (by rfl) (fun K hK=>?_);go_big_quiet_step (fail);refine wpQuiet_nil ?_;refine hK.out _ ?_;clear hK K)
   | (refine RV.m_skip (by rfl) ?_;simp only [Act.put,zzA,zzB,zzC]))
  refine RV.m_nil ?_
  intro w7 hF
  have hF:MRes B w0 l g R Q (.slice (some ⟨gh,0,none⟩) X.length hvc) Hs S' sv' fv' v ts w.heap.size o (MSet (ms X) (o.iA X.length) m o.s o.t) (.tuple #[v2,.int .i64 en]) w7:=hF
  clear y1 z4 z5 hne
  obtain⟨X',nv',v2',rs,en',he,hmr,hA7,ho7,_⟩:=hF
  simp only [Value.tuple.injEq,List.toArray_inj,Array.mk.injEq,List.cons.injEq,Value.int.injEq,and_true,true_and] at he
  obtain⟨rfl,rfl⟩:=he
  have HMr:=Lib.hid hmr
  have HA7:=Lib.hid hA7
  have HO7:=Lib.hid ho7
  obtain⟨v2a,v2c,rfl⟩:=own_shape ho7
  clear hmr ho7 hA7
  have hB:=both_set HT.out.ok HT.out.tw HT.out.cl hce hm hn HRes.out HMr.out (by have:=HO.out.s;omega) (by have:=HO.out.t;omega)
  obtain⟨ts',hts,htl,hex,hmq⟩:=hB.rec_
  obtain rfl:=encs_inj hts
  have HB:=Lib.hid hB
  clear hB hts
  by_cases hee:er=en
  case neg =>
   have hd1:(er == en)=false:=by simpa using hee
   have hnx:¬ex:=fun h=>hee (hex h).1
   clear hex hmq
   go_wp2_with fail
   go_ret2
   exact do_close HT.out HB.out HA7.out HHs.out (fun h=>absurd h hnx) (.setA m _ rs _ hk (by rw [ms_len];exact hm) (by rw [ms_len];exact HMr.out)) (by omega)
  have HMq:=Lib.hid (match_q HA7.out HHs.out (by rw [ms_len];omega) htl (hmq hee) HO7.out)
  have HEx:=Lib.hid hex
  subst hee
  clear hex hmq
  obtain⟨va7,vc7,hv7⟩:=own_shape (show Own w7 41 11 v ts.length (rows encR ts) from HA7.out.head)
  subst hv7
  go_wp2_with fail
  refine HMq.out.mono ?_
  rintro e w8 ⟨bq,rfl,hbq,hb8⟩
  have HA8:=Lib.hid (HA7.out.still hb8)
  have HBq:=Lib.hid hbq
  clear hb8 hbq
  go_wp2_with fail
  go_ret2
  exact do_close HT.out HB.out HA8.out HHs.out (fun h=>⟨HBq.out (HEx.out h).2,(HEx.out h).2⟩) (.setA m _ rs _ hk (by rw [ms_len];exact hm) (by rw [ms_len];exact HMr.out)) (by omega)
theorem do_drp {ex:Prop}{E:Nat→Prop}{c x:Nat}{B:Nat}{w0 w:World}{l:List Ob}{g R Q:Nat}{hv sv fv nv:Value}{S:Tr}{K:Nat→List Nat}{d:Nat→Nat}{X:List MX}{σ : Nat→Nat}
  (hLd:Laid w)(h:All B w0 (twL g R Q hv (hsOf S σ (ms X)) S sv fv nv X ++ l) w)(T:TwS ex E c x S K d (ms X) σ)(hX:X.length≤600)(hx:x≤2000)(hce:ex→c≤60)(hc6:c≤200)(o:OpV)(ho:o.Ok)(hk:o.k % 10=6) :
  Calls Tryz.prog 13 #[.pointer (some ⟨g,0,none⟩),.agg (opC o).toArray] w (DoR ex E c x B w0 l g R Q S K d (ms X) σ o):=by
 have hD:=doI_of h T hX hx ho
 obtain⟨Hs,hHs⟩:∃Hs,Hs=hsOf S σ (ms X):=⟨_,rfl⟩
 rw [← hHs] at h
 have hHl:Hs.length=X.length:=by rw [hHs,hsOf_len,ms_len]
 have hHp:0 < X.length:=hD.pos
 obtain⟨hva,hvc,hvv⟩:=own_shape (tw_hs h)
 rw [hHl] at hvv
 subst hvv
 have HAl:=Lib.hid h
 have HT:=Lib.hid T
 have HO:=Lib.hid ho
 have HHs:=Lib.hid hHs
 have HHl:=Lib.hid hHl
 have HLd:=Lib.hid hLd
 have hbk:=tw_bk h
 have g1:=hbk.cell 1
 have g2:=hbk.cell 2
 simp only [zzD,zzE] at g1 g2
 have hgl:=hbk.lt
 have hgz:=hbk.free
 have hb1:=(Below.refl w.heap.size w).alloc (Nat.le_refl _) (.cells (opC o).toArray 39)
 have k1:=Blk.new w (opC o) 39
 have hra:(o.a:Int) % (X.length:Int)=((o.iA X.length:Nat):Int):=rfl
 have hrb:(o.b:Int) % (X.length:Int)=((o.iB X.length:Nat):Int):=rfl
 have hrc:=wrap_iC o (n:=X.length) (by omega)
 have hrk:(o.k:Int) % 10=6:=by omega
 have hal:o.iA X.length < X.length:=Nat.mod_lt _ hHp
 have hbl:o.iB X.length < X.length:=Nat.mod_lt _ hHp
 have hn0:¬(X.length:Int)=0:=by omega
 have hn1:¬(X.length:Int)+1=0:=by omega
 have hoa:=ho.a
 have hob:=ho.b
 have hoc:=ho.c
 have hok:=ho.k
 have HHas:=Lib.hid (fun wx (hb:Below w.heap.size w wx) i (hi:i≤1000000)=>hasT (h.still hb) i hi (by have:=hD.pos;omega))
 clear h T ho hHs hbk hLd
 simp only [opC] at k1 hb1 ⊢
 go_enter Tryz.func13,Tryz.ntmps13
 go_upto_region 2 with fail
 generalize w.alloc (.cells #[.int .u8 o.k,.int .u8 o.a,.int .u8 o.b,.int .u8 o.c,.string ⟨o.s.toArray⟩,.string ⟨o.t.toArray⟩,.int .i8 o.n,.int .i8 o.kk] 39)=w1 at *
 have hne:=stb_ne w1
 have x1:=fun(x:InS (StB w1))=>(k1.below x.h).cell 1
 have x2:=fun(x:InS (StB w1))=>(k1.below x.h).cell 2
 have x3:=fun(x:InS (StB w1))=>(k1.below x.h).cell 3
 simp only [zzD,zzE] at x1 x2 x3
 refine reg_f (fun _ _=>True) (fun _ _=>True) 20 (by kernel_rfl) (by kernel_rfl) (fun _ _ _ _ _=>trivial) trivial ?_
 simp only [zzF,zzG,zzH,zzI]
 repeat (first
  | (refine RV.m_held (by rfl) (by rfl) (fun K hK=>?_);go_big_quiet_step (fail);refine wpQuiet_nil ?_;refine hK.out _ ?_;clear hK K)
  | (refine RV.m_skip (by rfl) ?_;simp only [Act.put,zzA,zzB,zzC]))
 refine RV.m_nil ?_
 intro w2 hb2' _
 have HB2:=Lib.hid (bthen hb1 hb2')
 have HK2:=Lib.hid (k1.below hb2')
 clear x1 x2 x3 hne hb1 hb2' k1 g1 g2 hHl
 rw [hra,hrb,hrc]
 have HA2:=Lib.hid (HAl.out.still HB2.out)
 have c0:=HK2.out.cell 0
 have g1:=(tw_bk HA2.out).cell 1
 have g2:=(tw_bk HA2.out).cell 2
 simp only [zzD,zzE] at c0 g1 g2
 have hgl2:=(tw_bk HA2.out).lt
 have hgz2:=(tw_bk HA2.out).free
 have hxl2:=HK2.out.lt
 clear hgl hgz
 go_wp2_with fail
 refine(HHas.out w2 HB2.out _ (by omega)).mono ?_
 rintro e w3 ⟨rfl,hw⟩
 rw [hw]
 clear hw
 obtain⟨hd,hhd,hho,hcase⟩:=hs_ok HT.out (i:=o.iA X.length) (by rw [ms_len];exact hal)
 rw [← HHs.out] at hhd
 obtain⟨gh,rfl,hghl,hgh⟩:=tw_hcell HA2.out HHl.out _ _ hhd
 have hai:(o.iA X.length:Int) < (X.length:Int):=by omega
 rcases hcase with ⟨m,n,hm,hn,rfl⟩ | ⟨hm,rfl,hix⟩
 case inr =>
  rw [hm]
  go_upto_region 57 with fail
  have hne:=stb_ne w2
  have y0:=fun(x:InS (StB w2))=>(tw_bk (HA2.out.still x.h)).cell 0
  have y2:=fun(x:InS (StB w2))=>(tw_bk (HA2.out.still x.h)).cell 2
  have y3:=fun(x:InS (StB w2))=>cell_keep x.h hgh
  have z4:=fun(x:InS (StB w2))=>(HK2.out.below x.h).cell 4
  simp only [zzD,zzE] at y0 y2 z4
  refine reg_f (fun _ _=>True) (fun _ v=>v=.tuple #[.slice none 0 0,.int .i64 6]) 19 (by kernel_rfl) (by kernel_rfl) (fun _ _ _ _ _=>trivial) trivial ?_
  simp only [zzF,zzG,zzH,zzI]
  repeat (first
   | (refine RV.m_held (by rfl) (by rfl) (fun K hK=>?_);go_big_quiet_step (fail);refine wpQuiet_nil ?_;refine hK.out _ ?_;clear hK K)
   | (refine RV.m_skip (by rfl) ?_;simp only [Act.put,zzA,zzB,zzC]))
  refine RV.m_call (by rfl) (by rfl) (fun w=>by go_simp;exact⟨rfl,rfl⟩) (⟨_,rfl⟩) (fun X wx hx=>?_) (fun v hv=>?_)
  ·refine(dropAttr_none (tw_tr (HA2.out.still hx.1)) (-1) hho hix _).mono ?_
   rintro e wy ⟨rfl,hb⟩
   exact⟨_,rfl,rfl,bthen hx.1 hb,trivial⟩
  obtain rfl:v=.tuple #[.slice none 0 0,.int .i64 6]:=hv
  simp only [Act.put,zzA,zzB,zzC]
  repeat (first
   | (refine RV.m_held (by rfl) (by rfl) (fun K hK=>?_);go_big_quiet_step (fail);refine wpQuiet_nil ?_;refine hK.out _ ?_;clear hK K)
   | (refine RV.m_skip (by rfl) ?_;simp only [Act.put,zzA,zzB,zzC]))
  refine RV.m_nil ?_
  intro w5 hb5 _
  have HA5:=Lib.hid (HA2.out.still hb5)
  clear y0 y2 y3 z4 hne hb5
  go_wp2_with fail
  go_ret2
  exact do_off HT.out HA5.out HHs.out (by omega) (.inl (by rw [ms_len];exact hm)) (by omega)
 case inl =>
  rw [hm]
  go_upto_region 57 with fail
  haveI hne:Nonempty (InS (DoS g R Q gh (o.iA X.length) w.heap.size (.slice (some ⟨gh,0,none⟩) X.length hvc) (S.hd (σ (o.iA X.length))) o)):=⟨⟨w2,doS_0 HA2.out HK2.out hgh w2 (Below.refl _ _)⟩⟩
  have y0:=fun(x:InS (DoS g R Q gh (o.iA X.length) w.heap.size (.slice (some ⟨gh,0,none⟩) X.length hvc) (S.hd (σ (o.iA X.length))) o))=>x.h.bk.cell 0
  have y2:=fun(x:InS (DoS g R Q gh (o.iA X.length) w.heap.size (.slice (some ⟨gh,0,none⟩) X.length hvc) (S.hd (σ (o.iA X.length))) o))=>x.h.bk.cell 2
  have y3:=fun(x:InS (DoS g R Q gh (o.iA X.length) w.heap.size (.slice (some ⟨gh,0,none⟩) X.length hvc) (S.hd (σ (o.iA X.length))) o))=>x.h.hc
  have z4:=fun(x:InS (DoS g R Q gh (o.iA X.length) w.heap.size (.slice (some ⟨gh,0,none⟩) X.length hvc) (S.hd (σ (o.iA X.length))) o))=>x.h.bx.cell 4
  simp only [opC,zzD,zzE] at y0 y2 z4
  refine reg_g (DoS g R Q gh (o.iA X.length) w.heap.size (.slice (some ⟨gh,0,none⟩) X.length hvc) (S.hd (σ (o.iA X.length))) o) (TF w2 (TRes B w0 l g R Q (.slice (some ⟨gh,0,none⟩) X.length hvc) Hs nv X w.heap.size o (fun S' ls er=>∃W0 v,DrpX W0 S (σ (o.iA X.length)) n o.s S' v er ls))) (fun _ v=>∃v0 er,v=.tuple #[v0,.int .i64 er]) 19 (by kernel_rfl) (by kernel_rfl) (tf_S (doS_0 HA2.out HK2.out hgh) (doS_1 HHl.out hhd)) (tf_below tres_below) (Below.refl _ _) ?_
  simp only [zzF,zzG,zzH,zzI]
  repeat (first
   | (refine RV.m_held (by rfl) (by rfl) (fun K hK=>?_);go_big_quiet_step (fail);refine wpQuiet_nil ?_;refine hK.out _ ?_;clear hK K)
   | (refine RV.m_skip (by rfl) ?_;simp only [Act.put,zzA,zzB,zzC]))
  refine RV.m_call (by rfl) (by rfl) (fun w=>by go_simp;exact⟨rfl,rfl⟩) (⟨_,.slice none 0 0,0,rfl⟩) (fun X wx hx=>?_) (fun v hv=>?_)
  ·refine(tdrp_any (tw_tr (HA2.out.still hx)) HT.out.ok.lk _ n hn (HT.out.ok.nd _ n hn).al o.s).mono ?_
   intro e wy hy
   obtain⟨v,rfl,hsh,hr⟩:=tres_of (HA2.out.still hx) (HK2.out.below hx) hy
   exact⟨v,rfl,hsh,hr⟩
  obtain⟨v,er,rfl⟩:=hv
  simp only [Act.put,zzA,zzB,zzC]
  repeat (first
   | (refine RV.m_held (by rfl) (by rfl) (fun K hK=>?_);go_big_quiet_step (fail);refine wpQuiet_nil ?_;refine hK.out _ ?_;clear hK K)
   | (refine RV.m_skip (by rfl) ?_;simp only [Act.put,zzA,zzB,zzC]))
  refine RV.m_nil ?_
  intro w5 hF
  obtain⟨S',sv',fv',v',ts,er',he,hres,hA5,hK5⟩:=hF
  simp only [Value.tuple.injEq,List.toArray_inj,Array.mk.injEq,List.cons.injEq,Value.int.injEq,and_true,true_and] at he
  obtain⟨rfl,rfl⟩:=he
  have HA5:=Lib.hid hA5
  have HK5:=Lib.hid hK5
  have HRes:=Lib.hid hres
  clear y0 y2 y3 z4 hne hA5 hK5 hres
  obtain⟨gm,capm,rfl⟩:=(tw_md HA5.out.tail).W.shape hHp
  go_upto_region 61 with fail
  haveI hne:Nonempty (InS (DoM g R Q w.heap.size (.slice (some ⟨gh,0,none⟩) X.length hvc) o)):=⟨⟨w5,tw_bk HA5.out.tail,HK5.out⟩⟩
  have y1:=fun(x:InS (DoM g R Q w.heap.size (.slice (some ⟨gh,0,none⟩) X.length hvc) o))=>x.h.bk.cell 1
  have z4:=fun(x:InS (DoM g R Q w.heap.size (.slice (some ⟨gh,0,none⟩) X.length hvc) o))=>x.h.bx.cell 4
  simp only [opC,zzD,zzE] at y1 z4
  refine reg_g (DoM g R Q w.heap.size (.slice (some ⟨gh,0,none⟩) X.length hvc) o) (TF w5 (MRes B w0 l g R Q (.slice (some ⟨gh,0,none⟩) X.length hvc) Hs S' sv' fv' v ts w.heap.size o (MDrp (ms X) (o.iA X.length) m o.s))) (fun _ v=>∃v0 er,v=.tuple #[v0,.int .i64 er]) 13 (by kernel_rfl) (by kernel_rfl) (tf_S (fun w' h=>⟨(tw_bk HA5.out.tail).below h,HK5.out.below h⟩) (fun v w' h=>by obtain⟨X',nv',v2,rs,en,e,hr,hA,ho,hk⟩:=h;exact⟨tw_bk hA.tail,hk⟩)) (tf_below mres_below) (Below.refl _ _) ?_
  simp only [zzF,zzG,zzH,zzI]
  repeat (first
   | (refine RV.m_held (by rfl) (by rfl) (fun K hK=>?_);go_big_quiet_step (fail);refine wpQuiet_nil ?_;refine hK.out _ ?_;clear hK K)
   | (refine RV.m_skip (by rfl) ?_;simp only [Act.put,zzA,zzB,zzC]))
  refine RV.m_call (by rfl) (by rfl) (fun w=>by go_simp;exact⟨rfl,rfl⟩) (⟨_,.slice none 0 0,0,rfl⟩) (fun X wx hx=>?_) (fun v hv=>?_)
  ·refine(mdropAttr_any (tw_md (HA5.out.still hx).tail) (by omega) hm (by have:=HT.out.tw.ma _ m hm;omega) o.s).mono ?_
   intro e wy hy
   obtain⟨v,rfl,hsh,hr⟩:=mres_of (HA5.out.still hx) (HK5.out.below hx) hy
   exact⟨v,rfl,hsh,hr⟩
  obtain⟨v2,en,rfl⟩:=hv
  simp only [Act.put,zzA,zzB,zzC]
  repeat (first
   | (refine RV.m_held (by rfl) (by rfl) (fun K hK=>?_);go_big_quiet_step (fail);refine wpQuiet_nil ?_;refine hK.out _ ?_;clear hK K)
   | (refine RV.m_skip (by rfl) ?_;simp only [Act.put,zzA,zzB,zzC]))
  refine RV.m_nil ?_
  intro w7 hF
  have hF:MRes B w0 l g R Q (.slice (some ⟨gh,0,none⟩) X.length hvc) Hs S' sv' fv' v ts w.heap.size o (MDrp (ms X) (o.iA X.length) m o.s) (.tuple #[v2,.int .i64 en]) w7:=hF
  clear y1 z4 hne
  obtain⟨X',nv',v2',rs,en',he,hmr,hA7,ho7,_⟩:=hF
  simp only [Value.tuple.injEq,List.toArray_inj,Array.mk.injEq,List.cons.injEq,Value.int.injEq,and_true,true_and] at he
  obtain⟨rfl,rfl⟩:=he
  have HMr:=Lib.hid hmr
  have HA7:=Lib.hid hA7
  have HO7:=Lib.hid ho7
  obtain⟨v2a,v2c,rfl⟩:=own_shape ho7
  clear hmr ho7 hA7
  have hB:=both_drp HT.out.ok HT.out.tw HT.out.cl hm hn HRes.out HMr.out
  obtain⟨ts',hts,htl,hex,hmq⟩:=hB.rec_
  obtain rfl:=encs_inj hts
  have HB:=Lib.hid hB
  clear hB hts
  by_cases hee:er=en
  case neg =>
   have hd1:(er == en)=false:=by simpa using hee
   have hnx:¬ex:=fun h=>hee (hex h).1
   clear hex hmq
   go_wp2_with fail
   go_ret2
   exact do_close HT.out HB.out HA7.out HHs.out (fun h=>absurd h hnx) (.drpA m _ rs _ hk (by rw [ms_len];exact hm) (by rw [ms_len];exact HMr.out)) (by omega)
  have HMq:=Lib.hid (match_q HA7.out HHs.out (by rw [ms_len];omega) htl (hmq hee) HO7.out)
  have HEx:=Lib.hid hex
  subst hee
  clear hex hmq
  obtain⟨va7,vc7,hv7⟩:=own_shape (show Own w7 41 11 v ts.length (rows encR ts) from HA7.out.head)
  subst hv7
  go_wp2_with fail
  refine HMq.out.mono ?_
  rintro e w8 ⟨bq,rfl,hbq,hb8⟩
  have HA8:=Lib.hid (HA7.out.still hb8)
  have HBq:=Lib.hid hbq
  clear hb8 hbq
  go_wp2_with fail
  go_ret2
  exact do_close HT.out HB.out HA8.out HHs.out (fun h=>⟨HBq.out (HEx.out h).2,(HEx.out h).2⟩) (.drpA m _ rs _ hk (by rw [ms_len];exact hm) (by rw [ms_len];exact HMr.out)) (by omega)
theorem do_rep {ex:Prop}{E:Nat→Prop}{c x:Nat}{B:Nat}{w0 w:World}{l:List Ob}{g R Q:Nat}{hv sv fv nv:Value}{S:Tr}{K:Nat→List Nat}{d:Nat→Nat}{X:List MX}{σ : Nat→Nat}
  (hLd:Laid w)(h:All B w0 (twL g R Q hv (hsOf S σ (ms X)) S sv fv nv X ++ l) w)(T:TwS ex E c x S K d (ms X) σ)(hX:X.length≤600)(hx:x≤2000)(hce:ex→c≤60)(hc6:c≤200)(o:OpV)(ho:o.Ok)(hk:o.k % 10=7) :
  Calls Tryz.prog 13 #[.pointer (some ⟨g,0,none⟩),.agg (opC o).toArray] w (DoR ex E c x B w0 l g R Q S K d (ms X) σ o):=by
 have hD:=doI_of h T hX hx ho
 obtain⟨Hs,hHs⟩:∃Hs,Hs=hsOf S σ (ms X):=⟨_,rfl⟩
 rw [← hHs] at h
 have hHl:Hs.length=X.length:=by rw [hHs,hsOf_len,ms_len]
 have hHp:0 < X.length:=hD.pos
 obtain⟨hva,hvc,hvv⟩:=own_shape (tw_hs h)
 rw [hHl] at hvv
 subst hvv
 have HAl:=Lib.hid h
 have HT:=Lib.hid T
 have HO:=Lib.hid ho
 have HHs:=Lib.hid hHs
 have HHl:=Lib.hid hHl
 have HLd:=Lib.hid hLd
 have hbk:=tw_bk h
 have g1:=hbk.cell 1
 have g2:=hbk.cell 2
 simp only [zzD,zzE] at g1 g2
 have hgl:=hbk.lt
 have hgz:=hbk.free
 have hb1:=(Below.refl w.heap.size w).alloc (Nat.le_refl _) (.cells (opC o).toArray 39)
 have k1:=Blk.new w (opC o) 39
 have hra:(o.a:Int) % (X.length:Int)=((o.iA X.length:Nat):Int):=rfl
 have hrb:(o.b:Int) % (X.length:Int)=((o.iB X.length:Nat):Int):=rfl
 have hrc:=wrap_iC o (n:=X.length) (by omega)
 have hrk:(o.k:Int) % 10=7:=by omega
 have hal:o.iA X.length < X.length:=Nat.mod_lt _ hHp
 have hbl:o.iB X.length < X.length:=Nat.mod_lt _ hHp
 have hn0:¬(X.length:Int)=0:=by omega
 have hn1:¬(X.length:Int)+1=0:=by omega
 have hoa:=ho.a
 have hwn:wrap64 o.n=o.n:=IntWalk.wrap64_in _ (by have:=ho.n;omega)
 have hwk:wrap64 o.kk=o.kk:=IntWalk.wrap64_in _ (by have:=ho.kk;omega)
 have hob:=ho.b
 have hoc:=ho.c
 have hok:=ho.k
 have HHas:=Lib.hid (fun wx (hb:Below w.heap.size w wx) i (hi:i≤1000000)=>hasT (h.still hb) i hi (by have:=hD.pos;omega))
 clear h T ho hHs hbk hLd
 simp only [opC] at k1 hb1 ⊢
 go_enter Tryz.func13,Tryz.ntmps13
 go_upto_region 2 with fail
 generalize w.alloc (.cells #[.int .u8 o.k,.int .u8 o.a,.int .u8 o.b,.int .u8 o.c,.string ⟨o.s.toArray⟩,.string ⟨o.t.toArray⟩,.int .i8 o.n,.int .i8 o.kk] 39)=w1 at *
 have hne:=stb_ne w1
 have x1:=fun(x:InS (StB w1))=>(k1.below x.h).cell 1
 have x2:=fun(x:InS (StB w1))=>(k1.below x.h).cell 2
 have x3:=fun(x:InS (StB w1))=>(k1.below x.h).cell 3
 simp only [zzD,zzE] at x1 x2 x3
 refine reg_f (fun _ _=>True) (fun _ _=>True) 20 (by kernel_rfl) (by kernel_rfl) (fun _ _ _ _ _=>trivial) trivial ?_
 simp only [zzF,zzG,zzH,zzI]
 repeat (first
  | (refine RV.m_held (by rfl) (by rfl) (fun K hK=>?_);go_big_quiet_step (fail);refine wpQuiet_nil ?_;refine hK.out _ ?_;clear hK K)
  | (refine RV.m_skip (by rfl) ?_;simp only [Act.put,zzA,zzB,zzC]))
 refine RV.m_nil ?_
 intro w2 hb2' _
 have HB2:=Lib.hid (bthen hb1 hb2')
 have HK2:=Lib.hid (k1.below hb2')
 clear x1 x2 x3 hne hb1 hb2' k1 g1 g2 hHl
 rw [hra,hrb,hrc]
 have HA2:=Lib.hid (HAl.out.still HB2.out)
 have c0:=HK2.out.cell 0
 have g1:=(tw_bk HA2.out).cell 1
 have g2:=(tw_bk HA2.out).cell 2
 simp only [zzD,zzE] at c0 g1 g2
 have hgl2:=(tw_bk HA2.out).lt
 have hgz2:=(tw_bk HA2.out).free
 have hxl2:=HK2.out.lt
 clear hgl hgz
 go_wp2_with fail
 refine(HHas.out w2 HB2.out _ (by omega)).mono ?_
 rintro e w3 ⟨rfl,hw⟩
 rw [hw]
 clear hw
 obtain⟨hd,hhd,hho,hcase⟩:=hs_ok HT.out (i:=o.iA X.length) (by rw [ms_len];exact hal)
 rw [← HHs.out] at hhd
 obtain⟨gh,rfl,hghl,hgh⟩:=tw_hcell HA2.out HHl.out _ _ hhd
 have hai:(o.iA X.length:Int) < (X.length:Int):=by omega
 rcases hcase with ⟨m,n,hm,hn,rfl⟩ | ⟨hm,rfl,hix⟩
 case inr =>
  rw [hm]
  go_upto_region 65 with fail
  have hne:=stb_ne w2
  have y0:=fun(x:InS (StB w2))=>(tw_bk (HA2.out.still x.h)).cell 0
  have y2:=fun(x:InS (StB w2))=>(tw_bk (HA2.out.still x.h)).cell 2
  have y3:=fun(x:InS (StB w2))=>cell_keep x.h hgh
  have z5:=fun(x:InS (StB w2))=>(HK2.out.below x.h).cell 5
  have z6:=fun(x:InS (StB w2))=>(HK2.out.below x.h).cell 6
  have z7:=fun(x:InS (StB w2))=>(HK2.out.below x.h).cell 7
  simp only [zzD,zzE] at y0 y2 z5 z6 z7
  refine reg_f (fun _ _=>True) (fun _ v=>v=.tuple #[.slice none 0 0,.int .i64 6]) 25 (by kernel_rfl) (by kernel_rfl) (fun _ _ _ _ _=>trivial) trivial ?_
  simp only [zzF,zzG,zzH,zzI]
  repeat (first
   | (refine RV.m_held (by rfl) (by rfl) (fun K hK=>?_);go_big_quiet_step (fail);refine wpQuiet_nil ?_;refine hK.out _ ?_;clear hK K)
   | (refine RV.m_skip (by rfl) ?_;simp only [Act.put,zzA,zzB,zzC]))
  refine RV.m_call (by rfl) (by rfl) (fun w=>by go_simp;exact⟨rfl,rfl⟩) (⟨_,rfl⟩) (fun X wx hx=>?_) (fun v hv=>?_)
  ·refine(replace_none (tw_tr (HA2.out.still hx.1)) (-1) hho hix _ _ _).mono ?_
   rintro e wy ⟨rfl,hb⟩
   exact⟨_,rfl,rfl,bthen hx.1 hb,trivial⟩
  obtain rfl:v=.tuple #[.slice none 0 0,.int .i64 6]:=hv
  simp only [Act.put,zzA,zzB,zzC]
  repeat (first
   | (refine RV.m_held (by rfl) (by rfl) (fun K hK=>?_);go_big_quiet_step (fail);refine wpQuiet_nil ?_;refine hK.out _ ?_;clear hK K)
   | (refine RV.m_skip (by rfl) ?_;simp only [Act.put,zzA,zzB,zzC]))
  refine RV.m_nil ?_
  intro w5 hb5 _
  have HA5:=Lib.hid (HA2.out.still hb5)
  clear y0 y2 y3 z5 z6 z7 hne hb5
  go_wp2_with fail
  go_ret2
  exact do_off HT.out HA5.out HHs.out (by omega) (.inl (by rw [ms_len];exact hm)) (by omega)
 case inl =>
  rw [hm]
  go_upto_region 65 with fail
  haveI hne:Nonempty (InS (DoS g R Q gh (o.iA X.length) w.heap.size (.slice (some ⟨gh,0,none⟩) X.length hvc) (S.hd (σ (o.iA X.length))) o)):=⟨⟨w2,doS_0 HA2.out HK2.out hgh w2 (Below.refl _ _)⟩⟩
  have y0:=fun(x:InS (DoS g R Q gh (o.iA X.length) w.heap.size (.slice (some ⟨gh,0,none⟩) X.length hvc) (S.hd (σ (o.iA X.length))) o))=>x.h.bk.cell 0
  have y2:=fun(x:InS (DoS g R Q gh (o.iA X.length) w.heap.size (.slice (some ⟨gh,0,none⟩) X.length hvc) (S.hd (σ (o.iA X.length))) o))=>x.h.bk.cell 2
  have y3:=fun(x:InS (DoS g R Q gh (o.iA X.length) w.heap.size (.slice (some ⟨gh,0,none⟩) X.length hvc) (S.hd (σ (o.iA X.length))) o))=>x.h.hc
  have z5:=fun(x:InS (DoS g R Q gh (o.iA X.length) w.heap.size (.slice (some ⟨gh,0,none⟩) X.length hvc) (S.hd (σ (o.iA X.length))) o))=>x.h.bx.cell 5
  have z6:=fun(x:InS (DoS g R Q gh (o.iA X.length) w.heap.size (.slice (some ⟨gh,0,none⟩) X.length hvc) (S.hd (σ (o.iA X.length))) o))=>x.h.bx.cell 6
  have z7:=fun(x:InS (DoS g R Q gh (o.iA X.length) w.heap.size (.slice (some ⟨gh,0,none⟩) X.length hvc) (S.hd (σ (o.iA X.length))) o))=>x.h.bx.cell 7
  simp only [opC,zzD,zzE] at y0 y2 z5 z6 z7
  refine reg_g (DoS g R Q gh (o.iA X.length) w.heap.size (.slice (some ⟨gh,0,none⟩) X.length hvc) (S.hd (σ (o.iA X.length))) o) (TF w2 (TRes B w0 l g R Q (.slice (some ⟨gh,0,none⟩) X.length hvc) Hs nv X w.heap.size o (fun S' ls er=>∃v,RepX S (σ (o.iA X.length)) n o.n o.kk o.t S' v er ls))) (fun _ v=>∃v0 er,v=.tuple #[v0,.int .i64 er]) 25 (by kernel_rfl) (by kernel_rfl) (tf_S (doS_0 HA2.out HK2.out hgh) (doS_1 HHl.out hhd)) (tf_below tres_below) (Below.refl _ _) ?_
  simp only [zzF,zzG,zzH,zzI]
  repeat (first
   | (refine RV.m_held (by rfl) (by rfl) (fun K hK=>?_);go_big_quiet_step (fail);refine wpQuiet_nil ?_;refine hK.out _ ?_;clear hK K)
   | (refine RV.m_skip (by rfl) ?_;simp only [Act.put,zzA,zzB,zzC]))
  refine RV.m_call (by rfl) (by rfl) (fun w=>by go_simp;exact⟨rfl,rfl⟩) (⟨_,.slice none 0 0,0,rfl⟩) (fun X wx hx=>?_) (fun v hv=>?_)
  ·refine(trep_any (tw_tr (HA2.out.still hx)) HT.out.ok.lk _ n hn (HT.out.ok.nd _ n hn).kd (by have:=(HT.out.ok.nd _ n hn).dl;omega) o.n o.kk (by have:=HO.out.n;omega) (by have:=HO.out.n;omega) (by have:=HO.out.kk;omega) (by have:=HO.out.kk;omega) o.t (by have:=HO.out.t;omega) ((HLd.out.below HB2.out).below hx)).mono ?_
   intro e wy hy
   obtain⟨v,rfl,hsh,hr⟩:=tres_of (HA2.out.still hx) (HK2.out.below hx) hy
   exact⟨v,rfl,hsh,hr⟩
  obtain⟨v,er,rfl⟩:=hv
  simp only [Act.put,zzA,zzB,zzC]
  repeat (first
   | (refine RV.m_held (by rfl) (by rfl) (fun K hK=>?_);go_big_quiet_step (fail);refine wpQuiet_nil ?_;refine hK.out _ ?_;clear hK K)
   | (refine RV.m_skip (by rfl) ?_;simp only [Act.put,zzA,zzB,zzC]))
  refine RV.m_nil ?_
  intro w5 hF
  obtain⟨S',sv',fv',v',ts,er',he,hres,hA5,hK5⟩:=hF
  simp only [Value.tuple.injEq,List.toArray_inj,Array.mk.injEq,List.cons.injEq,Value.int.injEq,and_true,true_and] at he
  obtain⟨rfl,rfl⟩:=he
  have HA5:=Lib.hid hA5
  have HK5:=Lib.hid hK5
  have HRes:=Lib.hid hres
  clear y0 y2 y3 z5 z6 z7 hne hA5 hK5 hres
  obtain⟨gm,capm,rfl⟩:=(tw_md HA5.out.tail).W.shape hHp
  go_upto_region 69 with fail
  haveI hne:Nonempty (InS (DoM g R Q w.heap.size (.slice (some ⟨gh,0,none⟩) X.length hvc) o)):=⟨⟨w5,tw_bk HA5.out.tail,HK5.out⟩⟩
  have y1:=fun(x:InS (DoM g R Q w.heap.size (.slice (some ⟨gh,0,none⟩) X.length hvc) o))=>x.h.bk.cell 1
  have z5:=fun(x:InS (DoM g R Q w.heap.size (.slice (some ⟨gh,0,none⟩) X.length hvc) o))=>x.h.bx.cell 5
  have z6:=fun(x:InS (DoM g R Q w.heap.size (.slice (some ⟨gh,0,none⟩) X.length hvc) o))=>x.h.bx.cell 6
  have z7:=fun(x:InS (DoM g R Q w.heap.size (.slice (some ⟨gh,0,none⟩) X.length hvc) o))=>x.h.bx.cell 7
  simp only [opC,zzD,zzE] at y1 z5 z6 z7
  refine reg_g (DoM g R Q w.heap.size (.slice (some ⟨gh,0,none⟩) X.length hvc) o) (TF w5 (MRes B w0 l g R Q (.slice (some ⟨gh,0,none⟩) X.length hvc) Hs S' sv' fv' v ts w.heap.size o (MRep (ms X) (o.iA X.length) m o.n o.kk o.t))) (fun _ v=>∃v0 er,v=.tuple #[v0,.int .i64 er]) 19 (by kernel_rfl) (by kernel_rfl) (tf_S (fun w' h=>⟨(tw_bk HA5.out.tail).below h,HK5.out.below h⟩) (fun v w' h=>by obtain⟨X',nv',v2,rs,en,e,hr,hA,ho,hk⟩:=h;exact⟨tw_bk hA.tail,hk⟩)) (tf_below mres_below) (Below.refl _ _) ?_
  simp only [zzF,zzG,zzH,zzI]
  repeat (first
   | (refine RV.m_held (by rfl) (by rfl) (fun K hK=>?_);go_big_quiet_step (fail);refine wpQuiet_nil ?_;refine hK.out _ ?_;clear hK K)
   | (refine RV.m_skip (by rfl) ?_;simp only [Act.put,zzA,zzB,zzC]))
  refine RV.m_call (by rfl) (by rfl) (fun w=>by go_simp;exact⟨rfl,rfl⟩) (⟨_,.slice none 0 0,0,rfl⟩) (fun X wx hx=>?_) (fun v hv=>?_)
  ·refine(mreplace_any (tw_md (HA5.out.still hx).tail) (by omega) hm (by obtain⟨n1,e1,_,_,e2,_⟩:=HT.out.tw.node _ m hm;rw [hn] at e1;cases e1;rw [← e2];have:=(HT.out.ok.nd _ n hn).dl;omega) o.n o.kk (by have:=HO.out.n;omega) (by have:=HO.out.n;omega) (by have:=HO.out.kk;omega) (by have:=HO.out.kk;omega) o.t (by have:=HO.out.t;omega)).mono ?_
   intro e wy hy
   obtain⟨v,rfl,hsh,hr⟩:=mres_of (HA5.out.still hx) (HK5.out.below hx) hy
   exact⟨v,rfl,hsh,hr⟩
  obtain⟨v2,en,rfl⟩:=hv
  simp only [Act.put,zzA,zzB,zzC]
  repeat (first
   | (refine RV.m_held (by rfl) (by rfl) (fun K hK=>?_);go_big_quiet_step (fail);refine wpQuiet_nil ?_;refine hK.out _ ?_;clear hK K)
   | (refine RV.m_skip (by rfl) ?_;simp only [Act.put,zzA,zzB,zzC]))
  refine RV.m_nil ?_
  intro w7 hF
  have hF:MRes B w0 l g R Q (.slice (some ⟨gh,0,none⟩) X.length hvc) Hs S' sv' fv' v ts w.heap.size o (MRep (ms X) (o.iA X.length) m o.n o.kk o.t) (.tuple #[v2,.int .i64 en]) w7:=hF
  clear y1 z5 z6 z7 hne
  obtain⟨X',nv',v2',rs,en',he,hmr,hA7,ho7,_⟩:=hF
  simp only [Value.tuple.injEq,List.toArray_inj,Array.mk.injEq,List.cons.injEq,Value.int.injEq,and_true,true_and] at he
  obtain⟨rfl,rfl⟩:=he
  have HMr:=Lib.hid hmr
  have HA7:=Lib.hid hA7
  have HO7:=Lib.hid ho7
  obtain⟨v2a,v2c,rfl⟩:=own_shape ho7
  clear hmr ho7 hA7
  have hB:=both_rep HT.out.ok HT.out.tw HT.out.cl (by omega) hm hn HRes.out HMr.out (by have:=HO.out.t;omega)
  obtain⟨ts',hts,htl,hex,hmq⟩:=hB.rec_
  obtain rfl:=encs_inj hts
  have HB:=Lib.hid hB
  clear hB hts
  by_cases hee:er=en
  case neg =>
   have hd1:(er == en)=false:=by simpa using hee
   have hnx:¬ex:=fun h=>hee (hex h).1
   clear hex hmq
   go_wp2_with fail
   go_ret2
   exact do_close HT.out HB.out HA7.out HHs.out (fun h=>absurd h hnx) (.rep m _ rs _ hk (by rw [ms_len];exact hm) (by rw [ms_len];exact HMr.out)) (by omega)
  have HMq:=Lib.hid (match_q HA7.out HHs.out (by rw [ms_len];omega) htl (hmq hee) HO7.out)
  have HEx:=Lib.hid hex
  subst hee
  clear hex hmq
  obtain⟨va7,vc7,hv7⟩:=own_shape (show Own w7 41 11 v ts.length (rows encR ts) from HA7.out.head)
  subst hv7
  go_wp2_with fail
  refine HMq.out.mono ?_
  rintro e w8 ⟨bq,rfl,hbq,hb8⟩
  have HA8:=Lib.hid (HA7.out.still hb8)
  have HBq:=Lib.hid hbq
  clear hb8 hbq
  go_wp2_with fail
  go_ret2
  exact do_close HT.out HB.out HA8.out HHs.out (fun h=>⟨HBq.out (HEx.out h).2,(HEx.out h).2⟩) (.rep m _ rs _ hk (by rw [ms_len];exact hm) (by rw [ms_len];exact HMr.out)) (by omega)
end Go.Proofs.YtfelmdkeaacfeaaGreatDoor.W
end
