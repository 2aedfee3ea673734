/- Texts joined: Do9 DoY ReF EqA. -/
import Derived.Test.YtfelmdkeaacfeaaGreatDoorTM1
import Derived.Test.YtfelmdkeaacfeaaGreatDoorTM36
import Derived.Test.YtfelmdkeaacfeaaGreatDoorTM37
import Derived.Test.YtfelmdkeaacfeaaGreatDoorTM38
import Derived.Test.YtfelmdkeaacfeaaGreatDoorTM39
import Derived.Test.YtfelmdkeaacfeaaGreatDoorTM42
import Derived.Test.YtfelmdkeaacfeaaGreatDoorTM31
import Derived.Test.YtfelmdkeaacfeaaGreatDoorTM33
import Derived.Test.YtfelmdkeaacfeaaGreatDoorTM27
import Derived.Test.YtfelmdkeaacfeaaGreatDoorTM40
import Derived.Test.YtfelmdkeaacfeaaGreatDoorTM15
set_option maxRecDepth 100000
set_option maxHeartbeats 40000000
set_option linter.unusedVariables false
set_option linter.unusedSimpArgs false
section
namespace Go.Proofs.YtfelmdkeaacfeaaGreatDoor.W
open Go.RowKit
theorem do_dro {ex:Prop}{E:Nat→Prop}{c x:Nat}{B:Nat}{w0 w:World}{l:List Ob}{g R Q:Nat}{hv sv fv nv:Value}{S:Tr}{K:Nat→List Nat}{d:Nat→Nat}{X:List MX}{σ : Nat→Nat}
  (hLd:Laid w)(h:All B w0 (twL g R Q hv (hsOf S σ (ms X)) S sv fv nv X ++ l) w)(T:TwS ex E c x S K d (ms X) σ)(hX:X.length≤600)(hx:x≤2000)(hce:ex→c≤60)(hc6:c≤200)(o:OpV)(ho:o.Ok)(hk:o.k % 10=9) :
  Calls Tryz.prog 13 #[.pointer (some ⟨g,0,none⟩),.agg (opC o).toArray] w (DoR ex E c x B w0 l g R Q S K d (ms X) σ o):=by
 have hD:=doI_of h T hX hx ho
 obtain⟨Hs,hHs⟩:∃Hs,Hs=hsOf S σ (ms X):=⟨_,rfl⟩
 rw [← hHs] at h
 have hHl:Hs.length=X.length:=by rw [hHs,hsOf_len,ms_len]
 have hHp:0 < X.length:=hD.pos
 obtain⟨hva,hvc,hvv⟩:=own_shape (tw_hs h)
 rw [hHl] at hvv
 subst hvv
 have HAl:=Lib.hid h
 have HT:=Lib.hid T
 have HO:=Lib.hid ho
 have HHs:=Lib.hid hHs
 have HHl:=Lib.hid hHl
 have HLd:=Lib.hid hLd
 have hbk:=tw_bk h
 have g1:=hbk.cell 1
 have g2:=hbk.cell 2
 simp only [zzD,zzE] at g1 g2
 have hgl:=hbk.lt
 have hgz:=hbk.free
 have hb1:=(Below.refl w.heap.size w).alloc (Nat.le_refl _) (.cells (opC o).toArray 39)
 have k1:=Blk.new w (opC o) 39
 have hra:(o.a:Int) % (X.length:Int)=((o.iA X.length:Nat):Int):=rfl
 have hrb:(o.b:Int) % (X.length:Int)=((o.iB X.length:Nat):Int):=rfl
 have hrc:=wrap_iC o (n:=X.length) (by omega)
 have hrk:(o.k:Int) % 10=9:=by omega
 have hal:o.iA X.length < X.length:=Nat.mod_lt _ hHp
 have hbl:o.iB X.length < X.length:=Nat.mod_lt _ hHp
 have hn0:¬(X.length:Int)=0:=by omega
 have hn1:¬(X.length:Int)+1=0:=by omega
 have hoa:=ho.a
 have hob:=ho.b
 have hoc:=ho.c
 have hok:=ho.k
 have HHas:=Lib.hid (fun wx (hb:Below w.heap.size w wx) i (hi:i≤1000000)=>hasT (h.still hb) i hi (by have:=hD.pos;omega))
 clear h T ho hHs hbk hLd
 simp only [opC] at k1 hb1 ⊢
 go_enter Tryz.func13,Tryz.ntmps13
 go_upto_region 2 with fail
 generalize w.alloc (.cells #[.int .u8 o.k,.int .u8 o.a,.int .u8 o.b,.int .u8 o.c,.string ⟨o.s.toArray⟩,.string ⟨o.t.toArray⟩,.int .i8 o.n,.int .i8 o.kk] 39)=w1 at *
 have hne:=stb_ne w1
 have x1:=fun(x:InS (StB w1))=>(k1.below x.h).cell 1
 have x2:=fun(x:InS (StB w1))=>(k1.below x.h).cell 2
 have x3:=fun(x:InS (StB w1))=>(k1.below x.h).cell 3
 simp only [zzD,zzE] at x1 x2 x3
 refine reg_f (fun _ _=>True) (fun _ _=>True) 20 (by kernel_rfl) (by kernel_rfl) (fun _ _ _ _ _=>trivial) trivial ?_
 simp only [zzF,zzG,zzH,zzI]
 repeat (first
  | (refine RV.m_held (by rfl) (by rfl) (fun K hK=>?_);go_big_quiet_step (fail);refine wpQuiet_nil ?_;refine hK.out _ ?_;clear hK K)
  | (refine RV.m_skip (by rfl) ?_;simp only [Act.put,zzA,zzB,zzC]))
 refine RV.m_nil ?_
 intro w2 hb2' _
 have HB2:=Lib.hid (bthen hb1 hb2')
 have HK2:=Lib.hid (k1.below hb2')
 clear x1 x2 x3 hne hb1 hb2' k1 g1 g2 hHl
 rw [hra,hrb,hrc]
 have HA2:=Lib.hid (HAl.out.still HB2.out)
 have c0:=HK2.out.cell 0
 have g1:=(tw_bk HA2.out).cell 1
 have g2:=(tw_bk HA2.out).cell 2
 simp only [zzD,zzE] at c0 g1 g2
 have hgl2:=(tw_bk HA2.out).lt
 have hgz2:=(tw_bk HA2.out).free
 have hxl2:=HK2.out.lt
 clear hgl hgz
 go_wp2_with fail
 refine(HHas.out w2 HB2.out _ (by omega)).mono ?_
 rintro e w3 ⟨rfl,hw⟩
 rw [hw]
 clear hw
 obtain⟨hd,hhd,hho,hcase⟩:=hs_ok HT.out (i:=o.iA X.length) (by rw [ms_len];exact hal)
 rw [← HHs.out] at hhd
 obtain⟨gh,rfl,hghl,hgh⟩:=tw_hcell HA2.out HHl.out _ _ hhd
 have hai:(o.iA X.length:Int) < (X.length:Int):=by omega
 rcases hcase with ⟨m,n,hm,hn,rfl⟩ | ⟨hm,rfl,hix⟩
 case inr =>
  rw [hm]
  go_upto_region 8 with fail
  have hne:=stb_ne w2
  have y0:=fun(x:InS (StB w2))=>(tw_bk (HA2.out.still x.h)).cell 0
  have y2:=fun(x:InS (StB w2))=>(tw_bk (HA2.out.still x.h)).cell 2
  have y3:=fun(x:InS (StB w2))=>cell_keep x.h hgh
  simp only [zzD,zzE] at y0 y2
  refine reg_f (fun _ _=>True) (fun _ v=>v=.int .i64 6) 13 (by kernel_rfl) (by kernel_rfl) (fun _ _ _ _ _=>trivial) trivial ?_
  simp only [zzF,zzG,zzH,zzI]
  repeat (first
   | (refine RV.m_held (by rfl) (by rfl) (fun K hK=>?_);go_big_quiet_step (fail);refine wpQuiet_nil ?_;refine hK.out _ ?_;clear hK K)
   | (refine RV.m_skip (by rfl) ?_;simp only [Act.put,zzA,zzB,zzC]))
  refine RV.m_call (by rfl) (by rfl) (fun w=>by go_simp;exact⟨rfl,rfl⟩) (⟨_,rfl⟩) (fun X wx hx=>?_) (fun v hv=>?_)
  ·refine(tdrop_none (tw_tr (HA2.out.still hx.1)) (-1) hho hix).mono ?_
   rintro e wy ⟨rfl,hb⟩
   exact⟨_,rfl,rfl,bthen hx.1 hb,trivial⟩
  obtain rfl:v=.int .i64 6:=hv
  simp only [Act.put,zzA,zzB,zzC]
  repeat (first
   | (refine RV.m_held (by rfl) (by rfl) (fun K hK=>?_);go_big_quiet_step (fail);refine wpQuiet_nil ?_;refine hK.out _ ?_;clear hK K)
   | (refine RV.m_skip (by rfl) ?_;simp only [Act.put,zzA,zzB,zzC]))
  refine RV.m_nil ?_
  intro w5 hb5 _
  have HA5:=Lib.hid (HA2.out.still hb5)
  clear y0 y2 y3 hne hb5
  have HA7:=Lib.hid HA5.out
  clear hgl2 hgz2 hghl hgh
  go_wp2_with fail
  go_loopw [40] (fun iv wr=>StrK B w0 l g R Q gh X.length hvc Hs S sv fv nv X iv wr) (fun iv _=>X.length - intN iv)
  case atStart=>exact⟨0,Nat.zero_le _,rfl,by rw [updH_zero];exact HA7.out⟩
  case round =>
   obtain⟨i,hi,rfl,hAi⟩:=hrel
   have HAi:=Lib.hid hAi
   clear hrk
   have q1:=(tw_bk hAi).cell 1
   have q2:=(tw_bk hAi).cell 2
   simp only [zzD,zzE] at q1 q2
   have qgl:=(tw_bk hAi).lt
   have qgz:=(tw_bk hAi).free
   by_cases hil:i < X.length
   ·have HHi:=Lib.hid (hasT hAi i (by omega) ⟨by omega,by omega⟩)
    have hii:(i:Int) < (X.length:Int):=by omega
    have hul:(updH (ms X) i Hs).length=X.length:=by rw [updH_len];exact HHl.out
    obtain⟨gh',e2,hghl',hci⟩:=tw_hcell hAi hul i ((updH (ms X) i Hs).getD i 0) (by rw [List.getD_eq_getElem?_getD,List.getElem?_eq_getElem (by rw [hul];exact hil)];rfl)
    cases e2
    have hown:=tw_hs hAi
    rw [hul] at hown
    have hfz:=hown.frozenAt i
    clear hown
    have HUl:=Lib.hid hul
    generalize (updH (ms X) i Hs).getD i 0=ov at *
    clear hAi hul
    cases hlv:lv (ms X) i with
    | some mi =>
     rw [hlv] at HHi
     have HU:=Lib.hid (updH_live hlv Hs)
     clear hlv
     go_wp2_with fail
     refine HHi.out.mono ?_
     rintro e w9 ⟨rfl,hw⟩
     rw [hw]
     clear hw
     go_wp2_with fail
     go_roundw
     case rel=>exact⟨i+1,by omega,by go_num,by rw [HU.out];exact HAi.out⟩
     case measure=>simp [intN];omega
    | none =>
     rw [hlv] at HHi
     have HU:=Lib.hid (updH_dead hlv Hs (by rw [HHl.out];exact hil))
     clear hlv
     go_wp2_with fail
     refine HHi.out.mono ?_
     rintro e w9 ⟨rfl,hw⟩
     rw [hw]
     clear hw
     go_wp2_with fail
     go_roundw
     case rel=>exact⟨i+1,by omega,by go_num,by rw [HU.out];exact tw_strike HAi.out HUl.out i (-1)⟩
     case measure=>simp [intN];omega
   ·obtain rfl:i=X.length:=by omega
    clear hAi q1 q2 qgl qgz
    go_wp2_with fail
    go_ret2
    exact do_dead HT.out HAi.out HHs.out hk (by rw [ms_len];exact hm)
 case inl =>
  rw [hm]
  go_upto_region 8 with fail
  haveI hne:Nonempty (InS (DoS g R Q gh (o.iA X.length) w.heap.size (.slice (some ⟨gh,0,none⟩) X.length hvc) (S.hd (σ (o.iA X.length))) o)):=⟨⟨w2,doS_0 HA2.out HK2.out hgh w2 (Below.refl _ _)⟩⟩
  have y0:=fun(x:InS (DoS g R Q gh (o.iA X.length) w.heap.size (.slice (some ⟨gh,0,none⟩) X.length hvc) (S.hd (σ (o.iA X.length))) o))=>x.h.bk.cell 0
  have y2:=fun(x:InS (DoS g R Q gh (o.iA X.length) w.heap.size (.slice (some ⟨gh,0,none⟩) X.length hvc) (S.hd (σ (o.iA X.length))) o))=>x.h.bk.cell 2
  have y3:=fun(x:InS (DoS g R Q gh (o.iA X.length) w.heap.size (.slice (some ⟨gh,0,none⟩) X.length hvc) (S.hd (σ (o.iA X.length))) o))=>x.h.hc
  simp only [opC,zzD,zzE] at y0 y2
  refine reg_g (DoS g R Q gh (o.iA X.length) w.heap.size (.slice (some ⟨gh,0,none⟩) X.length hvc) (S.hd (σ (o.iA X.length))) o) (TF w2 (DRes B w0 l g R Q (.slice (some ⟨gh,0,none⟩) X.length hvc) Hs nv X w.heap.size o S K d (σ (o.iA X.length)) n)) (fun _ v=>∃er,v=.int .i64 er) 13 (by kernel_rfl) (by kernel_rfl) (tf_S (doS_0 HA2.out HK2.out hgh) (dres_S HHl.out hhd)) (tf_below dres_below) (Below.refl _ _) ?_
  simp only [zzF,zzG,zzH,zzI]
  repeat (first
   | (refine RV.m_held (by rfl) (by rfl) (fun K hK=>?_);go_big_quiet_step (fail);refine wpQuiet_nil ?_;refine hK.out _ ?_;clear hK K)
   | (refine RV.m_skip (by rfl) ?_;simp only [Act.put,zzA,zzB,zzC]))
  refine RV.m_call (by rfl) (by rfl) (fun w=>by go_simp;exact⟨rfl,rfl⟩) (⟨_,0,rfl⟩) (fun X wx hx=>?_) (fun v hv=>?_)
  ·have hx2:Below w2.heap.size w2 wx:=hx
   have hA3:=HA2.out.still hx2
   have hk3:=HK2.out.below hx2
   have hT2:TAt 0 R S sv fv wx:=tw_tr hA3
   have hcl:=tdro_any hT2 HT.out.ok _ n hn hD.sl
   refine hcl.mono ?_
   rintro e wy ⟨S',sv',fv',er,hdt,rfl,hTo⟩
   exact⟨_,rfl,⟨er,rfl⟩,S',sv',fv',er,rfl,hdt,hTo.all hA3,box_keep hk3 hTo hT2⟩
  obtain⟨er,rfl⟩:=hv
  simp only [Act.put,zzA,zzB,zzC]
  repeat (first
   | (refine RV.m_held (by rfl) (by rfl) (fun K hK=>?_);go_big_quiet_step (fail);refine wpQuiet_nil ?_;refine hK.out _ ?_;clear hK K)
   | (refine RV.m_skip (by rfl) ?_;simp only [Act.put,zzA,zzB,zzC]))
  refine RV.m_nil ?_
  intro w5 hF
  obtain⟨S',sv',fv',er',he,hres,hA5,hK5⟩:=hF
  obtain rfl:er=er':=by simpa using he
  clear he
  have HA5:=Lib.hid hA5
  have HK5:=Lib.hid hK5
  have HRes:=Lib.hid hres
  clear y0 y2 y3 hne hA5 hK5 hres
  obtain⟨gm,capm,rfl⟩:=(tw_md HA5.out).W.shape hHp
  have g1':=(tw_bk HA5.out).cell 1
  simp only [zzD,zzE] at g1'
  have hgl5:=(tw_bk HA5.out).lt
  have hgz5:=(tw_bk HA5.out).free
  go_wp2_with fail
  refine(mdrop_any (tw_md HA5.out) (HT.out.tw.mw HT.out.ok.lk) (fun f i m h=>by have:=HT.out.tw.wlk_len HT.out.ok.lk f h;have:=hD.sl;omega) (fun f i m h=>HT.out.tw.wlk_live f i m h) hm).mono ?_
  rintro e w7 ⟨X',en,hmd,rfl,hM7⟩
  have HA7:=Lib.hid (hM7.tw0 HA5.out)
  have hBo:=both_dro HT.out.ok HT.out.tw HT.out.cl hm hn HRes.out hmd
  obtain⟨hee,hBo⟩:=hBo
  subst hee
  have hXl:X'.length=X.length:=by
   obtain⟨_,_,_,_,_,_,_,_,_,h,_⟩:=hBo
   rw [ms_len,ms_len] at h;exact h
  have HBo:=Lib.hid hBo
  have HMd:=Lib.hid hmd
  have HXl:=Lib.hid hXl
  clear hmd hM7 hBo g1' hgl5 hgz5 hgl2 hgz2 hghl hgh
  go_wp2_with fail
  go_loopw [40] (fun iv wr=>StrK B w0 l g R Q gh X.length hvc Hs S' sv' fv' (.slice (some ⟨gm,0,none⟩) X'.length capm) X' iv wr) (fun iv _=>X.length - intN iv)
  case atStart=>exact⟨0,Nat.zero_le _,rfl,by rw [updH_zero];exact HA7.out⟩
  case round =>
   obtain⟨i,hi,rfl,hAi⟩:=hrel
   have HAi:=Lib.hid hAi
   clear hrk
   have q1:=(tw_bk hAi).cell 1
   have q2:=(tw_bk hAi).cell 2
   simp only [zzD,zzE] at q1 q2
   have qgl:=(tw_bk hAi).lt
   have qgz:=(tw_bk hAi).free
   by_cases hil:i < X.length
   ·have HHi:=Lib.hid (hasT hAi i (by omega) ⟨by omega,by omega⟩)
    have hii:(i:Int) < (X.length:Int):=by omega
    have hul:(updH (ms X') i Hs).length=X.length:=by rw [updH_len];exact HHl.out
    obtain⟨gh',e2,hghl',hci⟩:=tw_hcell hAi hul i ((updH (ms X') i Hs).getD i 0) (by rw [List.getD_eq_getElem?_getD,List.getElem?_eq_getElem (by rw [hul];exact hil)];rfl)
    cases e2
    have hown:=tw_hs hAi
    rw [hul] at hown
    have hfz:=hown.frozenAt i
    clear hown
    have HUl:=Lib.hid hul
    generalize (updH (ms X') i Hs).getD i 0=ov at *
    clear hAi hul
    cases hlv:lv (ms X') i with
    | some mi =>
     rw [hlv] at HHi
     have HU:=Lib.hid (updH_live hlv Hs)
     clear hlv
     go_wp2_with fail
     refine HHi.out.mono ?_
     rintro e w9 ⟨rfl,hw⟩
     rw [hw]
     clear hw
     go_wp2_with fail
     go_roundw
     case rel=>exact⟨i+1,by omega,by go_num,by rw [HU.out];exact HAi.out⟩
     case measure=>simp [intN];omega
    | none =>
     rw [hlv] at HHi
     have HU:=Lib.hid (updH_dead hlv Hs (by rw [HHl.out];exact hil))
     clear hlv
     go_wp2_with fail
     refine HHi.out.mono ?_
     rintro e w9 ⟨rfl,hw⟩
     rw [hw]
     clear hw
     go_wp2_with fail
     go_roundw
     case rel=>exact⟨i+1,by omega,by go_num,by rw [HU.out];exact tw_strike HAi.out HUl.out i (-1)⟩
     case measure=>simp [intN];omega
   ·obtain rfl:i=X.length:=by omega
    clear hAi q1 q2 qgl qgz
    have HMq:=Lib.hid (match_q (ts:=[]) (rs:=[]) (S:=S') (σ:=σ) (M:=ms X') (v:=.slice none 0 0) (v2:=.slice none 0 0) (HAi.out.nil _ _) (str_all HHs.out HBo.out) (by rw [ms_len];have:=HXl.out;omega) (by simp) (.same rfl (by simp)) (World.ownsRow_nil _ _ _ _))
    go_wp2_with fail
    refine HMq.out.mono ?_
    rintro e w8 ⟨bq,rfl,hbq,hb8⟩
    have HA8:=Lib.hid (HAi.out.still hb8)
    obtain rfl:bq=true:=hbq rfl
    clear hb8 hbq
    go_wp2_with fail
    go_ret2
    exact do_gone HT.out HA8.out HHs.out hk hm HXl.out HBo.out HMd.out
theorem do_any {ex:Prop}{E:Nat→Prop}{c x:Nat}{B:Nat}{w0 w:World}{l:List Ob}{g R Q:Nat}{hv sv fv nv:Value}{S:Tr}{K:Nat→List Nat}{d:Nat→Nat}{X:List MX}{σ : Nat→Nat}
  (hLd:Laid w)(h:All B w0 (twL g R Q hv (hsOf S σ (ms X)) S sv fv nv X ++ l) w)(T:TwS ex E c x S K d (ms X) σ)(hX:X.length≤600)(hx:x≤2000)(hce:ex→c≤60)(hc6:c≤200)(o:OpV)(ho:o.Ok)(hE:∀y,E y→(S.at y).isSome=true) :
  Calls Tryz.prog 13 #[.pointer (some ⟨g,0,none⟩),.agg (opC o).toArray] w (DoR ex E c x B w0 l g R Q S K d (ms X) σ o):=by
 have h10:o.k % 10 < 10:=Nat.mod_lt _ (by omega)
 rcases(show o.k % 10=0∨o.k % 10=1∨o.k % 10=2∨o.k % 10=3∨o.k % 10=4∨o.k % 10=5∨o.k % 10=6∨o.k % 10=7∨o.k % 10=8∨o.k % 10=9 by omega) with hk | hk | hk | hk | hk | hk | hk | hk | hk | hk
 ·exact do_mk (by omega) hLd h T hX hx hce hc6 o ho hk hE
 ·exact do_mk (by omega) hLd h T hX hx hce hc6 o ho hk hE
 ·exact do_mk (by omega) hLd h T hX hx hce hc6 o ho hk hE
 ·exact do_ins hLd h T hX hx hce hc6 o ho hk
 ·exact do_rem hLd h T hX hx hce hc6 o ho hk
 ·exact do_set hLd h T hX hx hce hc6 o ho hk
 ·exact do_drp hLd h T hX hx hce hc6 o ho hk
 ·exact do_rep hLd h T hX hx hce hc6 o ho hk
 ·exact do_cpy hLd h T hX hx hce hc6 o ho hk hE
 ·exact do_dro hLd h T hX hx hce hc6 o ho hk
def MadeOk (w:World)(X:List Ob)(w':World):Prop:=∀o∈X,o.P w'∧∀k,o.F k→w.heap.size≤k
theorem MadeOk.below {w w1 w2:World}{X:List Ob}(h:MadeOk w X w1)(hb:Below w1.heap.size w1 w2):MadeOk w X w2:=fun o ho =>
 ⟨o.loc w1 w2 (h o ho).1 (fun k hk=>hb.block k (o.here w1 (h o ho).1 k hk)),(h o ho).2⟩
theorem md_node {Q g cap:Nat}{X:List MX}{w:World}(h:MdAt Q (.slice (some ⟨g,0,none⟩) X.length cap) X w){i:Nat}{x:MX}(hx:X[i]? = some x) :
  w.cell? ⟨g,i*7,none⟩=some (.int .i64 x.m.kind)∧w.cell? ⟨g,i*7+1,none⟩=some (strV x.m.name)∧w.cell? ⟨g,i*7+2,none⟩=some x.av∧w.cell? ⟨g,i*7+3,none⟩=some (strV x.m.data)∧w.cell? ⟨g,i*7+4,none⟩=some (.int .i64 (pI x.m.par))∧w.cell? ⟨g,i*7+5,none⟩=some x.kv∧w.cell? ⟨g,i*7+6,none⟩=some (.bool x.m.gone):=by
 have hc:=fun j hj=>h.W.cell hx j hj
 exact⟨hc 0 (by omega),hc 1 (by omega),hc 2 (by omega),hc 3 (by omega),hc 4 (by omega),hc 5 (by omega),hc 6 (by omega)⟩
theorem at_cells {w:World}{v:Value}{l:List Atr}{e:TypeId}(h:Own w e 2 v l.length (attrC l)){j:Nat}{a:Atr}(hj:l[j]? = some a):∃g c,v=.slice (some ⟨g,0,none⟩) l.length c∧w.cell? ⟨g,j*2,none⟩=some (strV a.1)∧w.cell? ⟨g,j*2+1,none⟩=some (strV a.2):=by
 have hk:=(List.getElem?_eq_some_iff.1 hj).1
 obtain⟨g,c,rfl,_⟩:=own_some h (by omega)
 obtain⟨h1,h2⟩:=attrC_at l j a hj
 exact⟨g,c,rfl,by rw [h.cellAt (j*2) (by omega),Nat.mul_comm j 2];exact h1,by rw [h.cellAt (j*2+1) (by omega),Nat.mul_comm j 2];exact h2⟩
def EqL (w:World)(n:Nat)(iv:Value)(wr:World):Prop:=∃i:Nat,i≤n∧iv=.int .i64 (i:Int)∧Below w.heap.size w wr
theorem nd_inj {n:Nd}{b:Bool}{v v':Value}(h:Value.tuple #[.agg (ndC { n with av:=v }).toArray,.bool b]=.tuple #[.agg (ndC { n with av:=v' }).toArray,.bool b]):v=v':=by
 simpa [ndC] using h
def EqF (n:Nd)(b:Bool):List Value→World→Prop
 | [v],w'=>∀v',v=.tuple #[.agg (ndC { n with av:=v' }).toArray,.bool b]→Own w' 91 2 v' n.attrs.length (attrC n.attrs)
 | _,_=>True
theorem EqF.below {n:Nd}{b:Bool}(k:List Value)(w1 w2:World)(h:EqF n b k w1)(hb:Below w1.heap.size w1 w2):EqF n b k w2:=by
 match k,h with
 | [],_=>trivial
 | [v],h=>exact fun v' e=>own_belowM (h v' e) hb
 | _ :: _ :: _,_=>trivial
def EkF (l:List Value)(n:Nat):List Value→World→Prop
 | [v],w'=>Own w' 3 1 v n l
 | _,_=>True
theorem EkF.below {l:List Value}{n:Nat}(k:List Value)(w1 w2:World)(h:EkF l n k w1)(hb:Below w1.heap.size w1 w2):EkF l n k w2:=by
 match k,h with
 | [],_=>trivial
 | [v],h=>exact own_belowM h hb
 | _ :: _ :: _,_=>trivial
theorem chg_set {F:Nat→Prop}{w w':World}{r j:Nat}(v:Value)(h:Chg F w w')(hr:F r):Chg F w (w'.setCell ⟨r,j,none⟩ v):=h.setCell ⟨r,j,none⟩ (fun _=>hr) v
theorem nd_put {w:World}{r:Nat}{cs:List Value}{t:TypeId}{G:World→Prop}(k:Blk w r cs t)(hl:cs.length=9)(v0 v1 v2 v3 v4 v5 v6 v7 v8:Value)(hG:∀w',Blk w' r [v0,v1,v2,v3,v4,v5,v6,v7,v8] t→Chg (fun k=>k=r) w w'→G w') :
  G (((((((((w.setCell ⟨r,0,none⟩ v0).setCell ⟨r,1,none⟩ v1).setCell ⟨r,2,none⟩ v2).setCell ⟨r,3,none⟩ v3).setCell ⟨r,4,none⟩ v4).setCell ⟨r,5,none⟩ v5).setCell ⟨r,6,none⟩ v6).setCell ⟨r,7,none⟩ v7).setCell ⟨r,8,none⟩ v8):=by
 have h9:=((((((((k.set 0 v0).set 1 v1).set 2 v2).set 3 v3).set 4 v4).set 5 v5).set 6 v6).set 7 v7).set 8 v8
 refine hG _ ?_ (chg_set _ (chg_set _ (chg_set _ (chg_set _ (chg_set _ (chg_set _ (chg_set _ (chg_set _ (chg_set _ (Chg.refl _ _) rfl) rfl) rfl) rfl) rfl) rfl) rfl) rfl) rfl)
 match cs,hl with
 | [_,_,_,_,_,_,_,_,_],_=>simpa using h9
def ndW (w:World)(r:Nat)(v0 v1 v2 v3 v4 v5 v6 v7 v8:Value):World :=
 ((((((((w.setCell ⟨r,0,none⟩ v0).setCell ⟨r,1,none⟩ v1).setCell ⟨r,2,none⟩ v2).setCell ⟨r,3,none⟩ v3).setCell ⟨r,4,none⟩ v4).setCell ⟨r,5,none⟩ v5).setCell ⟨r,6,none⟩ v6).setCell ⟨r,7,none⟩ v7).setCell ⟨r,8,none⟩ v8
theorem ndW_ok {w:World}{r:Nat}{cs:List Value}{t:TypeId}(k:Blk w r cs t)(hl:cs.length=9)(v0 v1 v2 v3 v4 v5 v6 v7 v8:Value):Blk (ndW w r v0 v1 v2 v3 v4 v5 v6 v7 v8) r [v0,v1,v2,v3,v4,v5,v6,v7,v8] t∧Chg (fun k=>k=r) w (ndW w r v0 v1 v2 v3 v4 v5 v6 v7 v8) :=
 nd_put (G:=fun w'=>Blk w' r [v0,v1,v2,v3,v4,v5,v6,v7,v8] t∧Chg (fun k=>k=r) w w') k hl v0 v1 v2 v3 v4 v5 v6 v7 v8 (fun _ h1 h2=>⟨h1,h2⟩)
structure EzS (g R Q gh i:Nat) (hv:Value) (hd:Int) (w:World):Prop where
 bk:Blk w g [.pointer (some ⟨R,0,none⟩),.pointer (some ⟨Q,0,none⟩),hv] 33
 hc:w.cell? ⟨gh,i,none⟩=some (.int .i64 hd)
def EzC (W:World)(n:Nd)(b:Bool):List Value→List Ob→World→Prop
 | [],Y,w'=>Below W.heap.size W w'∧MadeOk W Y w'
 | [v],Y,w'=>Below W.heap.size W w'∧MadeOk W Y w'∧EqF n b [v] w'
 | [_,v],Y,w'=>Below W.heap.size W w'∧∃r va,v=.tuple #[.agg (ndC { n with av:=va }).toArray,.bool b]∧W.heap.size≤r∧bk r (ndC zeroN) 62∈Y∧Blk w' r (ndC { n with av:=va }) 62∧Own w' 91 2 va n.attrs.length (attrC n.attrs)
 | _,_,_=>False
def EzV (n:Nd)(b:Bool):List Value→Value→Prop
 | [],v=>∃va vc,v=.tuple #[.agg (ndC { n with av:=.slice va n.attrs.length vc }).toArray,.bool b]
 | _,v=>v=undef
theorem EzC.low {W w':World}{n:Nd}{b:Bool}{k:List Value}{Y:List Ob}(h:EzC W n b k Y w'):Below W.heap.size W w':=by
 match k,h with
 | [],h=>exact h.1
 | [v],h=>exact h.1
 | [_,v],h=>exact h.1
theorem EzC.alloc {W:World}{n:Nd}{b:Bool}(k:List Value)(Y:List Ob)(w':World)(cs:List Value)(ty:TypeId)(h:EzC W n b k Y w'):EzC W n b k (bk w'.heap.size cs ty :: Y) (w'.alloc (.cells cs.toArray ty)):=by
 have hb:Below w'.heap.size w' (w'.alloc (.cells cs.toArray ty)):=(Below.refl _ _).alloc (Nat.le_refl _) _
 have hm:∀{Z},Below W.heap.size W w'→MadeOk W Z w'→MadeOk W (bk w'.heap.size cs ty :: Z) (w'.alloc (.cells cs.toArray ty)):=fun hbl h o ho=>by
  rcases List.mem_cons.1 ho with rfl | ho
  ·exact⟨Blk.new w' cs ty,fun k hk=>by have:k=w'.heap.size:=hk;have:=hbl.size;omega⟩
  ·exact h.below hb o ho
 match k,h with
 | [],h=>exact⟨bthen h.1 hb,hm h.1 h.2⟩
 | [v],h=>exact⟨bthen h.1 hb,hm h.1 h.2.1,EqF.below _ _ _ h.2.2 hb⟩
 | [_,v],⟨h1,r,va,e,hr,hm,hk,ho⟩=>exact⟨bthen h1 hb,r,va,e,hr,List.mem_cons_of_mem _ hm,hk.below hb,own_belowM ho hb⟩
theorem EzC.perm {W:World}{n:Nd}{b:Bool}(k:List Value)(Y Z:List Ob)(w':World)(hp:Y.Perm Z)(h:EzC W n b k Y w'):EzC W n b k Z w':=by
 match k,h with
 | [],h=>exact⟨h.1,fun o ho=>h.2 o (hp.mem_iff.2 ho)⟩
 | [v],h=>exact⟨h.1,fun o ho=>h.2.1 o (hp.mem_iff.2 ho),h.2.2⟩
 | [_,v],⟨h1,r,va,e,hr,hm,hk,ho⟩=>exact⟨h1,r,va,e,hr,hp.mem_iff.1 hm,hk,ho⟩
theorem bk_inj {r r':Nat}{cs:List Value}{t:TypeId}(h:bk r cs t=bk r' cs t):r=r':=by
 have h1:=congrFun (congrArg Ob.F h) r
 have h2:(r=r)=(r=r'):=h1
 exact h2 ▸ rfl
theorem EzC.store {W w:World}{n:Nd}{b:Bool}{r:Nat}{va:Option Addr}{vc:Nat}{Y:List Ob}(h:EzC W n b [.tuple #[.agg (ndC { n with av:=.slice va n.attrs.length vc }).toArray,.bool b]] Y w)(hr:bk r (ndC zeroN) 62∈Y) :
  Blk w r (ndC zeroN) 62∧EzC W n b [undef,.tuple #[.agg (ndC { n with av:=.slice va n.attrs.length vc }).toArray,.bool b]] Y (ndW w r (.int .i64 n.kind) (strV n.name) (.slice va n.attrs.length vc) (strV n.data) (.int .i64 n.parent) (.int .i64 n.first) (.int .i64 n.last) (.int .i64 n.prev) (.int .i64 n.next)):=by
 obtain⟨h1,h2,h3⟩:=h
 obtain⟨h4,h5⟩:=h2 _ hr
 have h4:Blk w r (ndC zeroN) 62:=h4
 have hrW:W.heap.size≤r:=h5 r rfl
 obtain⟨k1,k2⟩:=ndW_ok h4 rfl (.int .i64 n.kind) (strV n.name) (.slice va n.attrs.length vc) (strV n.data) (.int .i64 n.parent) (.int .i64 n.first) (.int .i64 n.last) (.int .i64 n.prev) (.int .i64 n.next)
 have hO:=h3 _ rfl
 exact⟨h4,h1.trans (k2.below h1.size (fun k e=>by subst e;exact hrW)),r,_,rfl,hrW,hr,k1,own_chg hO k2 (fun q hq e=>by obtain⟨cur,hc⟩:=own_ty hO hq;exact blk_ne hc h4 (by decide) e)⟩
theorem par_hnd {ex:Prop}{E:Nat→Prop}{c x:Nat}{S:Tr}{K:Nat→List Nat}{d:Nat→Nat}{M:List MN}{σ : Nat→Nat}(T:TwS ex E c x S K d M σ){i:Nat}{m:MN}{n:Nd}(hm:lv M i=some m)(hn:S.at (σ i)=some n) :
  hnd (hsOf S σ M) (pI m.par)=n.parent∧(-100000:Int)≤pI m.par∧pI m.par≤100000:=by
 have hp:=T.tw.parent T.ok.lk hm hn
 have hf:=T.tw.few
 cases e:m.par with
 | none =>
  rw [e] at hp
  refine⟨?_,by show(-100000:Int)≤-1;omega,by show(-1:Int)≤100000;omega⟩
  rw [hp];rfl
 | some p =>
  rw [e] at hp
  obtain⟨mp,h1,h2⟩:=T.tw.par i m p hm e
  have hl:=lv_live ⟨mp,h1⟩
  refine⟨?_,by show(-100000:Int)≤(p:Int);omega,by show(p:Int)≤100000;omega⟩
  rw [hp]
  show hnd (hsOf S σ M) (p:Int)=S.hd (σ p)
  unfold hnd
  rw [if_neg (by omega),Int.toNat_natCast,List.getD_eq_getElem?_getD,hsOf_live h1];rfl
theorem idx_both {ex:Prop}{E:Nat→Prop}{c x:Nat}{R Q gs cs gm cm:Nat}{fv:Value}{S:Tr}{K:Nat→List Nat}{d:Nat→Nat}{X:List MX}{σ : Nat→Nat}
  (T:TwS ex E c x S K d (ms X) σ)(hX:X.length≤10000){i:Nat}{m:MN}{n:Nd}(hm:lv (ms X) i=some m)(hn:S.at (σ i)=some n) :
  ∃q:Int,(∀w,TAt 0 R S (.slice (some ⟨gs,0,none⟩) S.slots.length cs) fv w→Calls Tryz.prog 28 #[.pointer (some ⟨R,0,none⟩),.int .i64 (S.hd (σ i))] w fun e w'=>e=.returned (.int .i64 q)∧Below w.heap.size w w') ∧
   (∀w,MdAt Q (.slice (some ⟨gm,0,none⟩) X.length cm) X w→Calls Tryz.prog 51 #[.pointer (some ⟨Q,0,none⟩),.int .i64 (i:Int)] w fun e w'=>e=.returned (.int .i64 q)∧w'=w):=by
 have hW:=T.tw.mw T.ok.lk
 cases e:m.par with
 | none =>
  refine⟨-1,fun w h=>?_,fun w h=>mindex_top h.W (by omega) hm e⟩
  have h0:n.parent=0:=(T.ok.lk.top _ n hn (T.tw.top i m hm e)).1
  exact index_top h T.ok.lk (σ i) n hn h0
 | some p =>
  obtain⟨mp,h1,h2⟩:=T.tw.par i m p hm e
  obtain⟨j,hj⟩:=List.mem_iff_getElem?.1 h2
  refine⟨(j:Int),fun w h=>?_,fun w h=>mindex_kid h.W hW hm e h1 hj⟩
  exact index_kid h T.ok.lk (σ p) j (σ i) (by rw [T.tw.kids p mp h1,List.getElem?_map,hj];rfl)
end Go.Proofs.YtfelmdkeaacfeaaGreatDoor.W
end
