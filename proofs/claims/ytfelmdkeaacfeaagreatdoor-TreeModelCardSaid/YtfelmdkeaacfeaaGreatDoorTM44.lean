/- Texts joined: Equ Stt Close OpT. -/
import Derived.Test.YtfelmdkeaacfeaaGreatDoorTM1
import Derived.Test.YtfelmdkeaacfeaaGreatDoorTM43
import Derived.Test.YtfelmdkeaacfeaaGreatDoorTM30
import Derived.Test.YtfelmdkeaacfeaaGreatDoorTM20
import Derived.Test.YtfelmdkeaacfeaaGreatDoorTM10
import Derived.Test.YtfelmdkeaacfeaaGreatDoorTM7
import Derived.Test.YtfelmdkeaacfeaaGreatDoorTM25
import Derived.Test.YtfelmdkeaacfeaaGreatDoorRows
import Derived.WalkKit
import Derived.ProofKit
import Derived.OpenShut
import Derived.Lib.SmallJoins
import Derived.Test.YtfelmdkeaacfeaaGreatDoorTM33
import Derived.Deep.Slices
set_option maxRecDepth 100000
set_option maxHeartbeats 40000000
set_option linter.unusedVariables false
set_option linter.unusedSimpArgs false
section
namespace Go.Proofs.YtfelmdkeaacfeaaGreatDoor.W
open Go.RowKit
theorem equal_any {ex:Prop}{E:Nat→Prop}{c x:Nat}{B:Nat}{w0 w:World}{l:List Ob}{g R Q:Nat}{hv sv fv nv:Value}{S:Tr}{K:Nat→List Nat}{d:Nat→Nat}{X:List MX}{σ : Nat→Nat}
  (h:All B w0 (twL g R Q hv (hsOf S σ (ms X)) S sv fv nv X ++ l) w)(T:TwS ex E c x S K d (ms X) σ)(he:ex)(hX:X.length≤10000) :
  Calls Tryz.prog 14 #[.pointer (some ⟨g,0,none⟩)] w fun e w'=>e=.returned (.bool true)∧Below w.heap.size w w':=by
 obtain⟨Hs,hHs⟩:∃Hs,Hs=hsOf S σ (ms X):=⟨_,rfl⟩
 rw [← hHs] at h
 have hHl:Hs.length=X.length:=by rw [hHs,hsOf_len,ms_len]
 have hXp:0 < X.length:=by
  obtain⟨_,m,hm⟩:=T.tw.zero
  have:=lv_live ⟨m,hm⟩
  rw [ms_len] at this;omega
 have hSp:0 < S.slots.length:=by
  obtain⟨n,hn,_⟩:=T.ok.doc
  exact at_lt hn
 obtain⟨hva,hvc,hvv⟩:=own_shape (tw_hs h)
 rw [hHl] at hvv
 subst hvv
 obtain⟨gm,capm,rfl⟩:=(tw_md h).W.shape hXp
 obtain⟨gs,caps,rfl⟩:=slots_some (tw_tr h) (by omega)
 have HAl:=Lib.hid h
 have HT:=Lib.hid T
 have HHs:=Lib.hid hHs
 have HHl:=Lib.hid hHl
 clear h T hHs hHl
 go_enter Tryz.func14,Tryz.ntmps14
 go_wp2_with fail
 go_loopw [3] (fun iv wr=>EqL w X.length iv wr) (fun iv _=>X.length - intN iv)
 case atStart=>exact⟨0,Nat.zero_le _,rfl,Below.refl _ _⟩
 case round =>
  obtain⟨i,hi,rfl,hB⟩:=hrel
  obtain⟨wq,rfl⟩:∃q,q=wr:=⟨wr,rfl⟩
  have HB:=Lib.hid hB
  have HA:=Lib.hid (HAl.out.still hB)
  have g2:=(tw_bk HA.out).cell 2
  simp only [zzD,zzE] at g2
  clear hB
  by_cases hlt:i < X.length
  ·obtain⟨hd,hhd,hho,hcase⟩:=hs_ok HT.out (i:=i) (by rw [ms_len];exact hlt)
   rw [← HHs.out] at hhd
   obtain⟨gh,rfl,hghl,hgh⟩:=tw_hcell HA.out HHl.out _ _ hhd
   have hai:(i:Int) < (X.length:Int):=by omega
   go_upto_region 4 with fail
   haveI hne:Nonempty (InS (EzS g R Q gh i (.slice (some ⟨gh,0,none⟩) X.length hvc) hd)):=⟨⟨wq,tw_bk HA.out,hgh⟩⟩
   have y0:=fun(x:InS (EzS g R Q gh i (.slice (some ⟨gh,0,none⟩) X.length hvc) hd))=>x.h.bk.cell 0
   have y2:=fun(x:InS (EzS g R Q gh i (.slice (some ⟨gh,0,none⟩) X.length hvc) hd))=>x.h.bk.cell 2
   have y3:=fun(x:InS (EzS g R Q gh i (.slice (some ⟨gh,0,none⟩) X.length hvc) hd))=>x.h.hc
   simp only [zzD,zzE] at y0 y2
   have hS4:∀n b k Y w',EzC wq n b k Y w'→EzS g R Q gh i (.slice (some ⟨gh,0,none⟩) X.length hvc) hd w':=fun n b k Y w' h=>⟨(tw_bk HA.out).below h.low,cell_keep h.low hgh⟩
   clear g2
   rcases hcase with ⟨m,n,hm,hn,rfl⟩ | ⟨hm,rfl,hix⟩
   case inr =>
    refine RZ.reg_m ⟨EzS g R Q gh i (.slice (some ⟨gh,0,none⟩) X.length hvc) (-1),EzC wq zeroN false,EzV zeroN false,fun _ r=>.pointer (some ⟨r,0,none⟩),fun _=>ndC zeroN,fun _=>62⟩ 18 (by kernel_rfl) (by kernel_rfl) (hS4 zeroN false) EzC.alloc EzC.perm ⟨(Below.refl _ _).drew,fun o ho=>(by cases ho)⟩ ?_
    simp only [zzF,zzG,zzH,zzI]
    repeat (first
     | (refine RZ.m_held (by rfl) (by rfl) (fun K hK=>?_);go_big_quiet_step (fail);refine wpQuiet_nil ?_;refine hK.out _ ?_;clear hK K)
     | (refine RZ.m_skip (by rfl) ?_;simp only [Act.put,zzA,zzB,zzC]))
    refine RZ.m_call (by rfl) (by rfl) (fun w=>by go_simp;exact⟨rfl,rfl⟩) ⟨_,none,0,rfl⟩ (fun Y wx hx=>?_) (fun v hv=>?_)
    ·have hx1:Below wq.heap.size wq wx:=hx.1
     refine(node_none (tw_tr (HA.out.still hx1)) (-1) hho hix).mono ?_
     rintro e wy ⟨v',rfl,ho,hb⟩
     obtain⟨va,vc,rfl⟩:=own_shapeB ho
     exact⟨_,rfl,⟨va,vc,rfl⟩,bthen hx1 hb,hx.2.below hb,fun v' e=>by rw [← nd_inj e];exact own_low ho (Nat.zero_le _)⟩
    obtain⟨va,vc,rfl⟩:=hv
    simp only [Act.put,zzA,zzB,zzC]
    repeat (first
     | (refine RZ.m_held (by rfl) (by rfl) (fun K hK=>?_);go_big_quiet_step (fail);refine wpQuiet_nil ?_;refine hK.out _ ?_;clear hK K)
     | (refine RZ.m_skip (by rfl) ?_;simp only [Act.put,zzA,zzB,zzC]))
    refine RZ.m_made (fun r=>.pointer (some ⟨r,0,none⟩)) (ndC zeroN) 62 rfl rfl rfl (by rfl) (by rfl) (fun w=>by go_simp;rfl) ?_
    intro r
    simp only [Act.put,zzA,zzB,zzC]
    repeat (first
     | (refine RZ.m_held (by rfl) (by rfl) (fun K hK=>?_);go_big_quiet_step (fail);refine wpQuiet_nil ?_;refine hK.out _ ?_;clear hK K)
     | (refine RZ.m_skip (by rfl) ?_;simp only [Act.put,zzA,zzB,zzC]))
    refine RZ.m_store (by rfl) (by rfl) rfl (fun Y wx hY hx=>?_) (fun v hv=>?_)
    ·obtain⟨k5,h5⟩:=EzC.store hx (hY _ (List.Mem.head _))
     refine⟨_,?_,h5⟩
     have hrz:=k5.free
     have hrl:=k5.lt
     have c0:=k5.cell 0
     have c1:=k5.cell 1
     have c2:=k5.cell 2
     have c3:=k5.cell 3
     have c4:=k5.cell 4
     have c5:=k5.cell 5
     have c6:=k5.cell 6
     have c7:=k5.cell 7
     have c8:=k5.cell 8
     simp only [ndC,zeroN,strV,zzD,zzE] at c0 c1 c2 c3 c4 c5 c6 c7 c8
     clear h5 k5 hx hY
     simp only [ndW,ndC,strV]
     go_simp
    obtain rfl:v=undef:=hv
    simp only [Act.put,zzA,zzB,zzC]
    repeat (first
     | (refine RZ.m_held (by rfl) (by rfl) (fun K hK=>?_);go_big_quiet_step (fail);refine wpQuiet_nil ?_;refine hK.out _ ?_;clear hK K)
     | (refine RZ.m_skip (by rfl) ?_;simp only [Act.put,zzA,zzB,zzC]))
    refine RZ.m_nil ?_
    rintro w6 ⟨hB6,r',va',ez1,hrW,hmem,k6,hO6⟩
    obtain rfl:=bk_inj (List.mem_singleton.1 hmem)
    have ez2:=nd_inj ez1
    subst ez2
    clear ez1
    have hB6:Below wq.heap.size wq w6:=hB6
    have HA6:=Lib.hid (HA.out.still hB6)
    have HB6:=Lib.hid (bthen HB.out hB6)
    have g1:=(tw_bk HA6.out).cell 1
    simp only [zzD,zzE] at g1
    have HHas:=Lib.hid (hasT HA6.out i (by omega) ⟨hXp,by omega⟩)
    rw [hm] at HHas
    clear y0 y2 y3 hne hS4 k6 hO6 hB6 hgh hghl hmem hrW
    go_wp2_with fail
    refine HHas.out.mono ?_
    rintro e w9 ⟨rfl,hw⟩
    rw [hw]
    clear hw
    go_wp2_with fail
    go_roundw
    case rel=>exact⟨i+1,by omega,by go_num,HB6.out⟩
    case measure=>simp [intN];omega
   case inl =>
    obtain⟨mx,hmx,rfl,hmg⟩:=lv_some hm
    obtain⟨n0,hn0,e1,e2,e3,e4⟩:=HT.out.tw.node i _ hm
    rw [hn] at hn0
    cases hn0
    have e4:=e4 he
    obtain⟨hpar,hp1,hp2⟩:=par_hnd HT.out hm hn
    rw [← HHs.out] at hpar
    have hkK:=HT.out.tw.kids i _ hm
    have hkk:∀(j k:Nat),mx.m.kids[j]? = some k→∃mk,lv (ms X) k=some mk:=fun j k hk=>by
     obtain⟨mk,h1,_⟩:=HT.out.tw.kid i _ k hm (List.mem_of_getElem? hk)
     exact⟨mk,h1⟩
    have hatl:n.attrs.length≤64:=(HT.out.ok.nd _ n hn).al
    have hkdl:mx.m.kids.length≤1000000:=by have:=kids_len HT.out.ok.lk (σ i);rw [hkK,List.length_map] at this;omega
    have HHd:=Lib.hid hhd
    have HKk:=Lib.hid hkK
    have HKl:=Lib.hid hkk
    have HN:=Lib.hid hn
    have HM:=Lib.hid hm
    clear hn hm hkK hkk
    refine RZ.reg_m ⟨EzS g R Q gh i (.slice (some ⟨gh,0,none⟩) X.length hvc) (S.hd (σ i)),EzC wq n true,EzV n true,fun _ r=>.pointer (some ⟨r,0,none⟩),fun _=>ndC zeroN,fun _=>62⟩ 18 (by kernel_rfl) (by kernel_rfl) (hS4 n true) EzC.alloc EzC.perm ⟨(Below.refl _ _).drew,fun o ho=>(by cases ho)⟩ ?_
    simp only [zzF,zzG,zzH,zzI]
    repeat (first
     | (refine RZ.m_held (by rfl) (by rfl) (fun K hK=>?_);go_big_quiet_step (fail);refine wpQuiet_nil ?_;refine hK.out _ ?_;clear hK K)
     | (refine RZ.m_skip (by rfl) ?_;simp only [Act.put,zzA,zzB,zzC]))
    refine RZ.m_call (by rfl) (by rfl) (fun w=>by go_simp;exact⟨rfl,rfl⟩) ⟨_,none,0,rfl⟩ (fun Y wx hx=>?_) (fun v hv=>?_)
    ·have hx1:Below wq.heap.size wq wx:=hx.1
     refine(node_some (tw_tr (HA.out.still hx1)) (S.hd (σ i)) hho (hd_ix HT.out.ok.lk HN.out) (at_slot HN.out) (by have:=(HT.out.ok.nd _ n HN.out).al;omega)).mono ?_
     rintro e wy ⟨v',rfl,ho,hb⟩
     obtain⟨va,vc,rfl⟩:=own_shapeB ho
     exact⟨_,rfl,⟨va,vc,rfl⟩,bthen hx1 hb,hx.2.below hb,fun v' e=>by rw [← nd_inj e];exact own_low ho (Nat.zero_le _)⟩
    obtain⟨va,vc,rfl⟩:=hv
    simp only [Act.put,zzA,zzB,zzC]
    repeat (first
     | (refine RZ.m_held (by rfl) (by rfl) (fun K hK=>?_);go_big_quiet_step (fail);refine wpQuiet_nil ?_;refine hK.out _ ?_;clear hK K)
     | (refine RZ.m_skip (by rfl) ?_;simp only [Act.put,zzA,zzB,zzC]))
    refine RZ.m_made (fun r=>.pointer (some ⟨r,0,none⟩)) (ndC zeroN) 62 rfl rfl rfl (by rfl) (by rfl) (fun w=>by go_simp;rfl) ?_
    intro r
    simp only [Act.put,zzA,zzB,zzC]
    repeat (first
     | (refine RZ.m_held (by rfl) (by rfl) (fun K hK=>?_);go_big_quiet_step (fail);refine wpQuiet_nil ?_;refine hK.out _ ?_;clear hK K)
     | (refine RZ.m_skip (by rfl) ?_;simp only [Act.put,zzA,zzB,zzC]))
    refine RZ.m_store (by rfl) (by rfl) rfl (fun Y wx hY hx=>?_) (fun v hv=>?_)
    ·obtain⟨k5,h5⟩:=EzC.store hx (hY _ (List.Mem.head _))
     refine⟨_,?_,h5⟩
     have hrz:=k5.free
     have hrl:=k5.lt
     have c0:=k5.cell 0
     have c1:=k5.cell 1
     have c2:=k5.cell 2
     have c3:=k5.cell 3
     have c4:=k5.cell 4
     have c5:=k5.cell 5
     have c6:=k5.cell 6
     have c7:=k5.cell 7
     have c8:=k5.cell 8
     simp only [ndC,zeroN,strV,zzD,zzE] at c0 c1 c2 c3 c4 c5 c6 c7 c8
     clear h5 k5 hx hY
     simp only [ndW,ndC,strV]
     go_simp
    obtain rfl:v=undef:=hv
    simp only [Act.put,zzA,zzB,zzC]
    repeat (first
     | (refine RZ.m_held (by rfl) (by rfl) (fun K hK=>?_);go_big_quiet_step (fail);refine wpQuiet_nil ?_;refine hK.out _ ?_;clear hK K)
     | (refine RZ.m_skip (by rfl) ?_;simp only [Act.put,zzA,zzB,zzC]))
    refine RZ.m_nil ?_
    rintro w6 ⟨hB6,r',va',ez1,hrW,hmem,k6,hO6⟩
    obtain rfl:=bk_inj (List.mem_singleton.1 hmem)
    have ez2:=nd_inj ez1
    subst ez2
    clear ez1
    have hB6:Below wq.heap.size wq w6:=hB6
    simp only [ndC,strV] at k6 ⊢
    have HA6:=Lib.hid (HA.out.still hB6)
    have HB6:=Lib.hid (bthen HB.out hB6)
    have HO6:=Lib.hid hO6
    have g1:=(tw_bk HA6.out).cell 1
    simp only [zzD,zzE] at g1
    have HHas:=Lib.hid (hasT HA6.out i (by omega) ⟨hXp,by omega⟩)
    rw [HM.out] at HHas
    obtain⟨q0,q1,q2,q3,q4,q5,q6⟩:=md_node (tw_md HA6.out) hmx
    have p0:=(tw_md HA6.out).W.ptr
    obtain⟨aa,ac,hav⟩:=own_shape ((tw_md HA6.out).W.att mx (List.mem_of_getElem? hmx))
    obtain⟨ka,kc,hkv⟩:=own_shape ((tw_md HA6.out).W.kid mx (List.mem_of_getElem? hmx))
    have HAv:=Lib.hid hav
    have HKv:=Lib.hid hkv
    have HE4:=Lib.hid e4
    have HMx:=Lib.hid hmx
    rw [hav,← e4] at q2
    rw [hkv] at q5
    rw [← e1] at q0
    rw [← e2] at q1
    rw [← e3] at q3
    simp only [strV] at q1 q3
    generalize (⟨n.name.toArray⟩:ByteArray)=s1 at *
    generalize (⟨n.data.toArray⟩:ByteArray)=s2 at *
    generalize pI mx.m.par=pv at *
    have HP:=Lib.hid hpar
    clear y0 y2 y3 hne hS4 hB6 hgh hghl hO6 hav hkv e4 hmx e1 e2 e3 hpar hmem hrW
    go_wp2_with fail
    refine HHas.out.mono ?_
    rintro e w9 ⟨rfl,hw⟩
    rw [hw]
    clear hw
    go_upto_region 9 with fail
    have k8:=Blk.new w6 [.int .i64 n.kind,.string s1,.slice aa n.attrs.length ac,.string s2,.int .i64 pv,.slice ka mx.m.kids.length kc,.bool false] 81
    have hB68:Below w6.heap.size w6 (w6.alloc (.cells #[.int .i64 n.kind,.string s1,.slice aa n.attrs.length ac,.string s2,.int .i64 pv,.slice ka mx.m.kids.length kc,.bool false] 81)):=(Below.refl _ _).alloc (Nat.le_refl _) _
    change Blk (w6.alloc (.cells #[.int .i64 n.kind,.string s1,.slice aa n.attrs.length ac,.string s2,.int .i64 pv,.slice ka mx.m.kids.length kc,.bool false] 81)) _ _ _ at k8
    generalize w6.alloc (.cells #[.int .i64 n.kind,.string s1,.slice aa n.attrs.length ac,.string s2,.int .i64 pv,.slice ka mx.m.kids.length kc,.bool false] 81)=w8 at *
    have HK6:=Lib.hid (k6.below hB68)
    have HK8:=Lib.hid k8
    have HO8:=Lib.hid (own_belowM HO6.out hB68)
    have HA8:=Lib.hid (HA6.out.still hB68)
    have HB8:=Lib.hid (bthen HB6.out hB68)
    clear k6 k8 hB68 g1 q0 q1 q2 q3 q4 q5 q6 p0 HHas
    have hne:=stb_ne w8
    have x0:=fun(x:InS (StB w8))=>(HK6.out.below x.h).cell 0
    have x1:=fun(x:InS (StB w8))=>(HK6.out.below x.h).cell 1
    have x2:=fun(x:InS (StB w8))=>(HK6.out.below x.h).cell 2
    have x3:=fun(x:InS (StB w8))=>(HK6.out.below x.h).cell 3
    have x4:=fun(x:InS (StB w8))=>(HK6.out.below x.h).cell 4
    have y0:=fun(x:InS (StB w8))=>(HK8.out.below x.h).cell 0
    have y1:=fun(x:InS (StB w8))=>(HK8.out.below x.h).cell 1
    have y2:=fun(x:InS (StB w8))=>(HK8.out.below x.h).cell 2
    have y3:=fun(x:InS (StB w8))=>(HK8.out.below x.h).cell 3
    have y4:=fun(x:InS (StB w8))=>(HK8.out.below x.h).cell 4
    simp only [zzD,zzE] at x0 x1 x2 x3 x4 y0 y1 y2 y3 y4
    refine reg_f (fun _ _=>True) (fun _ v=>v=.int .i64 n.parent) 37 (by kernel_rfl) (by kernel_rfl) (fun _ _ _ _ _=>trivial) trivial ?_
    simp only [zzF,zzG,zzH,zzI]
    repeat (first
     | (refine RV.m_held (by rfl) (by rfl) (fun K hK=>?_);go_big_quiet_step (fail);refine wpQuiet_nil ?_;refine hK.out _ ?_;clear hK K)
     | (refine RV.m_skip (by rfl) ?_;simp only [Act.put,zzA,zzB,zzC]))
    refine RV.m_call (by rfl) (by rfl) (fun w=>by go_simp;exact⟨rfl,rfl⟩) (⟨_,rfl⟩) (fun X wx hx=>?_) (fun v hv=>?_)
    ·refine(thandle_any (tw_bk (HA8.out.still hx.1)) (tw_hs (HA8.out.still hx.1)) (by rw [HHl.out];omega) pv hp1 hp2).mono ?_
     rintro e wy ⟨rfl,hw⟩
     exact⟨_,rfl,by rw [HP.out],by rw [hw];exact hx.1,trivial⟩
    obtain rfl:v=.int .i64 n.parent:=hv
    simp only [Act.put,zzA,zzB,zzC]
    repeat (first
     | (refine RV.m_held (by rfl) (by rfl) (fun K hK=>?_);go_big_quiet_step (fail);refine wpQuiet_nil ?_;refine hK.out _ ?_;clear hK K)
     | (refine RV.m_skip (by rfl) ?_;simp only [Act.put,zzA,zzB,zzC]))
    refine RV.m_nil ?_
    intro w9 hb9 _
    have HK6:=Lib.hid (HK6.out.below hb9)
    have HK8:=Lib.hid (HK8.out.below hb9)
    have HO9:=Lib.hid (own_belowM HO8.out hb9)
    have HA9:=Lib.hid (HA8.out.still hb9)
    have HB9:=Lib.hid (bthen HB8.out hb9)
    clear x0 x1 x2 x3 x4 y0 y1 y2 y3 y4 hne hb9 HO8 HA8 HB8 HA6 HB6 HO6
    go_wp2_with fail
    go_loopw [7] (fun jv wz=>EqL w9 n.attrs.length jv wz) (fun jv _=>n.attrs.length - intN jv)
    case atStart=>exact⟨0,Nat.zero_le _,rfl,Below.refl _ _⟩
    case round =>
     obtain⟨j,hj,rfl,hBz⟩:=hrel
     obtain⟨wz,rfl⟩:∃q,q=wr:=⟨wr,rfl⟩
     have HBz:=Lib.hid hBz
     have z2:=(HK8.out.below hBz).cell 2
     simp only [zzD,zzE] at z2
     have HAz:=Lib.hid (HA9.out.still hBz)
     by_cases hjl:j < n.attrs.length
     ·obtain⟨a,ha⟩:∃a,n.attrs[j]? = some a:=⟨_,List.getElem?_eq_getElem hjl⟩
      have hajl:(j:Int) < (n.attrs.length:Int):=by omega
      obtain⟨ga,ca,ev,a1,a2⟩:=at_cells (own_belowM HO9.out hBz) ha
      cases ev
      have hOm:=(tw_md HAz.out).W.att mx (List.mem_of_getElem? HMx.out)
      rw [HAv.out,← HE4.out] at hOm
      obtain⟨gb,cb,ew,b1,b2⟩:=at_cells hOm ha
      cases ew
      simp only [strV] at a1 a2 b1 b2
      generalize (⟨a.1.toArray⟩:ByteArray)=t1 at *
      generalize (⟨a.2.toArray⟩:ByteArray)=t2 at *
      clear hOm hBz
      go_upto_region 14 with fail
      have hne:=stb_ne wz
      have x2:=fun(x:InS (StB wz))=>((HK6.out.below HBz.out).below x.h).cell 2
      have y2:=fun(x:InS (StB wz))=>((HK8.out.below HBz.out).below x.h).cell 2
      have u1:=fun(x:InS (StB wz))=>cell_keep x.h a1
      have u2:=fun(x:InS (StB wz))=>cell_keep x.h a2
      have u3:=fun(x:InS (StB wz))=>cell_keep x.h b1
      have u4:=fun(x:InS (StB wz))=>cell_keep x.h b2
      simp only [zzD,zzE] at x2 y2
      clear a1 a2 b1 b2 z2
      refine reg_f (fun _ _=>True) (fun _ _=>True) 28 (by kernel_rfl) (by kernel_rfl) (fun _ _ _ _ _=>trivial) trivial ?_
      simp only [zzF,zzG,zzH,zzI]
      repeat (first
       | (refine RV.m_held (by rfl) (by rfl) (fun K hK=>?_);go_big_quiet_step (fail);refine wpQuiet_nil ?_;refine hK.out _ ?_;clear hK K)
       | (refine RV.m_skip (by rfl) ?_;simp only [Act.put,zzA,zzB,zzC]))
      refine RV.m_nil ?_
      intro w10 hb10 _
      have HB10:=Lib.hid (bthen HBz.out hb10)
      clear x2 y2 u1 u2 u3 u4 hne hb10
      go_wp2_with fail
      go_roundw
      case rel=>exact⟨j+1,by omega,by go_num,HB10.out⟩
      case measure=>simp [intN];omega
     ·obtain rfl:j=n.attrs.length:=by omega
      obtain⟨gh',e2,_,hgh⟩:=tw_hcell HAz.out HHl.out i _ HHd.out
      cases e2
      have HK6:=Lib.hid (HK6.out.below hBz)
      have HK8:=Lib.hid (HK8.out.below hBz)
      have HBq:=Lib.hid (bthen HB9.out hBz)
      clear hBz HO9 HA9 HB9
      go_upto_region 16 with fail
      have hne:=stb_ne wz
      have y0:=fun(x:InS (StB wz))=>(tw_bk (HAz.out.still x.h)).cell 0
      have y2:=fun(x:InS (StB wz))=>(tw_bk (HAz.out.still x.h)).cell 2
      have y3:=fun(x:InS (StB wz))=>cell_keep x.h hgh
      simp only [zzD,zzE] at y0 y2
      refine reg_f (EkF (hC ((K (σ i)).map S.hd)) mx.m.kids.length) (fun _ v=>∃a c,v=.slice a mx.m.kids.length c) 13 (by kernel_rfl) (by kernel_rfl) EkF.below trivial ?_
      simp only [zzF,zzG,zzH,zzI]
      repeat (first
       | (refine RV.m_held (by rfl) (by rfl) (fun K hK=>?_);go_big_quiet_step (fail);refine wpQuiet_nil ?_;refine hK.out _ ?_;clear hK K)
       | (refine RV.m_skip (by rfl) ?_;simp only [Act.put,zzA,zzB,zzC]))
      refine RV.m_call (by rfl) (by rfl) (fun w=>by go_simp;exact⟨rfl,rfl⟩) (⟨_,none,0,rfl⟩) (fun X wx hx=>?_) (fun v hv=>?_)
      ·have hx1:Below wz.heap.size wz wx:=hx.1
       refine(kids_any (tw_tr (HAz.out.still hx1)) HT.out.ok.lk (σ i) n HN.out).mono ?_
       rintro e wy ⟨v,rfl,ho,hb⟩
       rw [show(K (σ i)).length=mx.m.kids.length by rw [HKk.out,List.length_map]] at ho
       obtain⟨ka',kc',rfl⟩:=own_shapeB ho
       exact⟨_,rfl,⟨ka',kc',rfl⟩,bthen hx1 hb,own_low ho (Nat.zero_le _)⟩
      obtain⟨kva,kvc,rfl⟩:=hv
      simp only [Act.put,zzA,zzB,zzC]
      repeat (first
       | (refine RV.m_held (by rfl) (by rfl) (fun K hK=>?_);go_big_quiet_step (fail);refine wpQuiet_nil ?_;refine hK.out _ ?_;clear hK K)
       | (refine RV.m_skip (by rfl) ?_;simp only [Act.put,zzA,zzB,zzC]))
      refine RV.m_nil ?_
      intro w11 hb11 hk11
      have HK:=Lib.hid (show Own w11 3 1 (.slice kva mx.m.kids.length kvc) mx.m.kids.length (hC ((K (σ i)).map S.hd)) from hk11)
      have hb11:Below wz.heap.size wz w11:=hb11
      have HA11:=Lib.hid (HAz.out.still hb11)
      have HB11:=Lib.hid (bthen HBq.out hb11)
      have HK8:=Lib.hid (HK8.out.below hb11)
      have hg11:=cell_keep hb11 hgh
      clear y0 y2 y3 hne hb11 hk11 hgh z2 HK6 HAz HBz HBq
      go_upto_region 17 with fail
      have hne:=stb_ne w11
      have y0:=fun(x:InS (StB w11))=>(tw_bk (HA11.out.still x.h)).cell 0
      have y1:=fun(x:InS (StB w11))=>(tw_bk (HA11.out.still x.h)).cell 1
      have y2:=fun(x:InS (StB w11))=>(tw_bk (HA11.out.still x.h)).cell 2
      have y3:=fun(x:InS (StB w11))=>cell_keep x.h hg11
      have x5:=fun(x:InS (StB w11))=>(HK8.out.below x.h).cell 5
      simp only [zzD,zzE] at y0 y1 y2 x5
      obtain⟨q,HI1,HI2⟩:=idx_both (R:=R) (Q:=Q) (gs:=gs) (cs:=caps) (gm:=gm) (cm:=capm) (fv:=fv) HT.out hX HM.out HN.out
      have HI1:=Lib.hid HI1
      have HI2:=Lib.hid HI2
      refine reg_f (fun _ _=>True) (fun _ v=>v=.int .i64 q) 27 (by kernel_rfl) (by kernel_rfl) (fun _ _ _ _ _=>trivial) trivial ?_
      simp only [zzF,zzG,zzH,zzI]
      repeat (first
       | (refine RV.m_held (by rfl) (by rfl) (fun K hK=>?_);go_big_quiet_step (fail);refine wpQuiet_nil ?_;refine hK.out _ ?_;clear hK K)
       | (refine RV.m_skip (by rfl) ?_;simp only [Act.put,zzA,zzB,zzC]))
      refine RV.m_call (by rfl) (by rfl) (fun w=>by go_simp;exact⟨rfl,rfl⟩) (⟨_,rfl⟩) (fun X wx hx=>?_) (fun v hv=>?_)
      ·refine(HI1.out _ (tw_tr (HA11.out.still hx.1))).mono ?_
       rintro e wy ⟨rfl,hb⟩
       exact⟨_,rfl,rfl,bthen hx.1 hb,trivial⟩
      obtain rfl:v=.int .i64 q:=hv
      simp only [Act.put,zzA,zzB,zzC]
      repeat (first
       | (refine RV.m_held (by rfl) (by rfl) (fun K hK=>?_);go_big_quiet_step (fail);refine wpQuiet_nil ?_;refine hK.out _ ?_;clear hK K)
       | (refine RV.m_skip (by rfl) ?_;simp only [Act.put,zzA,zzB,zzC]))
      refine RV.m_call (by rfl) (by rfl) (fun w=>by go_simp;exact⟨rfl,rfl⟩) (⟨_,rfl⟩) (fun X wx hx=>?_) (fun v hv=>?_)
      ·refine(HI2.out _ (tw_md (HA11.out.still hx.1))).mono ?_
       rintro e wy ⟨rfl,hw⟩
       exact⟨_,rfl,rfl,by rw [hw];exact hx.1,trivial⟩
      obtain rfl:v=.int .i64 q:=hv
      simp only [Act.put,zzA,zzB,zzC]
      repeat (first
       | (refine RV.m_held (by rfl) (by rfl) (fun K hK=>?_);go_big_quiet_step (fail);refine wpQuiet_nil ?_;refine hK.out _ ?_;clear hK K)
       | (refine RV.m_skip (by rfl) ?_;simp only [Act.put,zzA,zzB,zzC]))
      refine RV.m_nil ?_
      intro w12 hb12 _
      have HA12:=Lib.hid (HA11.out.still hb12)
      have HB12:=Lib.hid (bthen HB11.out hb12)
      have HK8:=Lib.hid (HK8.out.below hb12)
      have HK:=Lib.hid (own_belowM HK.out hb12)
      clear y0 y1 y2 y3 x5 hne hb12 hg11 HA11 HB11 HI1 HI2
      go_wp2_with fail
      go_loopw [9] (fun jv wz=>EqL w12 mx.m.kids.length jv wz) (fun jv _=>mx.m.kids.length - intN jv)
      case atStart=>exact⟨0,Nat.zero_le _,rfl,Below.refl _ _⟩
      case round =>
       obtain⟨j,hj,rfl,hBy⟩:=hrel
       obtain⟨wy,rfl⟩:∃q,q=wr:=⟨wr,rfl⟩
       have HBy:=Lib.hid hBy
       have HAy:=Lib.hid (HA12.out.still hBy)
       by_cases hjl:j < mx.m.kids.length
       ·obtain⟨k,hk⟩:∃k,mx.m.kids[j]? = some k:=⟨_,List.getElem?_eq_getElem hjl⟩
        have hajl:(j:Int) < (mx.m.kids.length:Int):=by omega
        obtain⟨mk,hmk⟩:=HKl.out j k hk
        have hkX:=lv_live ⟨mk,hmk⟩
        rw [ms_len] at hkX
        have hakX:(k:Int) < (X.length:Int):=by omega
        obtain⟨gk,ck,ek,k1⟩:=own_int (own_belowM HK.out hBy) (j:=j) (x:=S.hd (σ k)) (by rw [HKk.out,List.map_map,List.getElem?_map,hk];rfl)
        cases ek
        have hOk:=(tw_md HAy.out).W.kid mx (List.mem_of_getElem? HMx.out)
        rw [HKv.out] at hOk
        obtain⟨gk2,ek2,k2⟩:=kid_get (own_low hOk (Nat.zero_le _)) hk
        subst ek2
        obtain⟨gh',e2,_,k3⟩:=tw_hcell HAy.out HHl.out k (S.hd (σ k)) (by rw [HHs.out];exact hsOf_live hmk)
        cases e2
        clear hOk hBy
        go_upto_region 22 with fail
        have hne:=stb_ne wy
        have y2:=fun(x:InS (StB wy))=>(tw_bk (HAy.out.still x.h)).cell 2
        have x5:=fun(x:InS (StB wy))=>((HK8.out.below HBy.out).below x.h).cell 5
        have u1:=fun(x:InS (StB wy))=>cell_keep x.h k1
        have u2:=fun(x:InS (StB wy))=>cell_keep x.h k2
        have u3:=fun(x:InS (StB wy))=>cell_keep x.h k3
        simp only [zzD,zzE] at y2 x5
        clear k1 k2 k3
        refine reg_f (fun _ _=>True) (fun _ _=>True) 16 (by kernel_rfl) (by kernel_rfl) (fun _ _ _ _ _=>trivial) trivial ?_
        simp only [zzF,zzG,zzH,zzI]
        repeat (first
         | (refine RV.m_held (by rfl) (by rfl) (fun K hK=>?_);go_big_quiet_step (fail);refine wpQuiet_nil ?_;refine hK.out _ ?_;clear hK K)
         | (refine RV.m_skip (by rfl) ?_;simp only [Act.put,zzA,zzB,zzC]))
        refine RV.m_nil ?_
        intro w13 hb13 _
        have HB13:=Lib.hid (bthen HBy.out hb13)
        clear y2 x5 u1 u2 u3 hne hb13
        go_wp2_with fail
        go_roundw
        case rel=>exact⟨j+1,by omega,by go_num,HB13.out⟩
        case measure=>simp [intN];omega
       ·obtain rfl:j=mx.m.kids.length:=by omega
        clear hBy
        go_wp2_with fail
        go_roundw
        case rel=>exact⟨i+1,by omega,by go_num,bthen HB12.out HBy.out⟩
        case measure=>simp [intN];omega
  ·obtain rfl:i=X.length:=by omega
   go_wp2_with fail
   go_ret
   exact⟨rfl,HB.out⟩
theorem tree_newA {B:Nat}{w0 w:World}{l:List Ob}(h:All B w0 l w)(b s:Int) :
  Calls Tryz.prog 38 #[.agg #[.int .i64 b,.int .i64 s]] w fun e w'=>∃R sv,e=.returned (.pointer (some ⟨R,0,none⟩))∧All B w0 (trO R (newT b s) sv (.slice none 0 0) :: l) w':=by
 refine(tree_new b s w).mono ?_
 rintro e w' ⟨R,sv,rfl,hT,hb⟩
 refine⟨R,sv,rfl,h.new ⟨hT.blk,own_low hT.slots (Nat.zero_le _),own_low hT.free (Nat.zero_le _),fun i n hi=>?_,Nat.zero_le _,hT.few⟩ hb (fun k hk=>?_)⟩
 ·obtain⟨a,c,e,h'⟩:=hT.attrs i n hi
  exact⟨a,c,e,h'.imp id fun⟨g,cur,e1,_,r⟩=>⟨g,cur,e1,Nat.zero_le _,r⟩⟩
 ·rcases hk with rfl | hk | hk | ⟨i,n,hi,hne,hk⟩
  ·exact hT.base
  ·exact(hT.slots.lt k hk).1
  ·cases hk
  ·obtain⟨a,c,e,h'⟩:=hT.attrs i n (at_slot hi)
   rcases h' with h' | ⟨g,cur,rfl,hg,_⟩
   ·exact absurd h' hne
   ·rw [e] at hk;cases hk;exact hg
theorem tws_start (b s:Int):TwS True (fun _=>False) 0 0 (newT b s) (fun _=>[]) (fun _=>1) [newMN 1 [] [] []] (fun _=>0):=by
 have hlk:Lk (newT b s) (fun _=>[]) (fun _=>1):=start_lk b s
 have hat:∀i n,(newT b s).at i=some n→i=0∧n=newN 1 []:=fun i n hi=>by
  unfold Tr.at newT at hi
  cases i with
  | zero=>simp at hi;exact⟨rfl,hi.symm⟩
  | succ i=>simp at hi
 have h0:(newT b s).at 0=some (newN 1 []):=rfl
 have hlv:∀i m,lv [newMN 1 [] [] []] i=some m→i=0∧m=newMN 1 [] [] []:=fun i m hi=>by
  obtain⟨h1,_⟩:=lv_at hi
  cases i with
  | zero=>simp at h1;exact⟨rfl,h1.symm⟩
  | succ i=>simp at h1
 have hz:lv [newMN 1 [] [] []] 0=some (newMN 1 [] [] []):=rfl
 refine⟨⟨hlk,fun x n hx=>?_,fun p np _=>.inl rfl,fun i hi=>(by cases hi),List.nodup_nil,rfl,⟨_,h0,rfl⟩,fun x n hx hx0=>absurd (hat x n hx).1 hx0,fun p h=>(by cases h)⟩,
  ⟨fun i m hi=>?_,fun i m hi=>?_,fun i j mi mj hi hj _=>?_,⟨rfl,_,hz⟩,fun i m p hi hp=>?_,fun p mp k hp hk=>?_,fun i m hi hp q h=>(by cases h),fun x hx=>?_,fun i m hi h=>h,fun i m hi=>?_,by decide⟩,fun p k h=>(by cases h),by show 1≤1+0;omega⟩
 ·rw [(hat x n hx).2]
  exact⟨.inl rfl,fun e=>(by cases e),fun e=>(by rcases e with e | e <;> cases e),fun _=>⟨rfl,rfl,rfl⟩,fun a ha=>(by cases ha),List.nodup_nil,by simp [newN],by simp [newN],by simp [newN]⟩
 ·obtain⟨rfl,rfl⟩:=hlv i m hi
  exact⟨_,h0,rfl,rfl,rfl,fun _=>rfl⟩
 ·obtain⟨rfl,rfl⟩:=hlv i m hi
  rfl
 ·rw [(hlv i mi hi).1,(hlv j mj hj).1]
 ·obtain⟨rfl,rfl⟩:=hlv i m hi
  cases hp
 ·obtain⟨rfl,rfl⟩:=hlv p mp hp
  cases hk
 ·obtain⟨n,hn⟩:=Option.isSome_iff_exists.1 hx
  exact .inr ⟨0,_,hz,(hat x n hn).1.symm⟩
 ·obtain⟨rfl,rfl⟩:=hlv i m hi
  exact Nat.zero_le _
theorem All.conv {B:Nat}{w0 w:World}{o o':Ob}(l1:List Ob){l2:List Ob}(h:All B w0 (l1 ++ o :: l2) w)(hp:o'.P w)(hf:∀k,o'.F k→o.F k):All B w0 (l1 ++ o' :: l2) w :=
 h.step l1 hp (Chg.refl _ _) (fun k hk=>.inl (hf k hk))
def StC (B:Nat)(w0:World)(l:List Ob)(R:Nat)(S:Tr)(sv fv:Value):List Value→List Ob→World→Prop
 | [],Y,w'=>All B w0 (Y ++ trO R S sv fv :: l) w'
 | [v],Y,w'=>∃Q nv X,v=.pointer (some ⟨Q,0,none⟩)∧ms X=[newMN 1 [] [] []]∧All B w0 (Y ++ mdO Q nv X :: trO R S sv fv :: l) w'
 | _,_,_=>False
theorem StC.tr {B:Nat}{w0 w:World}{l:List Ob}{R:Nat}{S:Tr}{sv fv:Value}{k:List Value}{Y:List Ob}(h:StC B w0 l R S sv fv k Y w):TAt 0 R S sv fv w:=by
 match k,h with
 | [],h=>exact h.P (trO R S sv fv) (by simp)
 | [v],⟨Q,nv,X,_,_,h⟩=>exact h.P (trO R S sv fv) (by simp)
theorem StC.alloc {B:Nat}{w0 w:World}{l:List Ob}{R:Nat}{S:Tr}{sv fv:Value}(k:List Value)(Y:List Ob)(cs:List Value)(ty:TypeId)(h:StC B w0 l R S sv fv k Y w):StC B w0 l R S sv fv k (bk w.heap.size cs ty :: Y) (w.alloc (.cells cs.toArray ty)):=by
 match k,h with
 | [],h=>exact h.newBk cs ty
 | [v],⟨Q,nv,X,e1,e2,h⟩=>exact⟨Q,nv,X,e1,e2,h.newBk cs ty⟩
theorem StC.perm {B:Nat}{w0 w:World}{l:List Ob}{R:Nat}{S:Tr}{sv fv:Value}(k:List Value)(Y Z:List Ob)(hp:Y.Perm Z)(h:StC B w0 l R S sv fv k Y w):StC B w0 l R S sv fv k Z w:=by
 match k,h with
 | [],h=>exact All.perm (show All B w0 (Y ++ trO R S sv fv :: l) w from h) (List.Perm.append_right _ hp)
 | [v],⟨Q,nv,X,e1,e2,h⟩=>exact⟨Q,nv,X,e1,e2,h.perm (List.Perm.append_right _ hp)⟩
theorem start_any {B:Nat}{w0 w:World}{l:List Ob}(h:All B w0 l w)(b s:Int) :
  Calls Tryz.prog 12 #[.agg #[.int .i64 b,.int .i64 s]] w fun e w'=>∃g R Q hv sv nv X,e=.returned (.pointer (some ⟨g,0,none⟩))∧ms X=[newMN 1 [] [] []] ∧
   All B w0 (twL g R Q hv (hsOf (newT b s) (fun _=>0) (ms X)) (newT b s) sv (.slice none 0 0) nv X ++ l) w':=by
 have HA1:=Lib.hid (h.alloc (.cells #[.int .i64 b,.int .i64 s] 28))
 have k1:=Blk.new w [.int .i64 b,.int .i64 s] 28
 have c0:=k1.cell 0
 have c1:=k1.cell 1
 simp only [zzD,zzE] at c0 c1
 have hlt:=k1.lt
 clear h
 go_enter Tryz.func12,Tryz.ntmps12
 go_wp2_with fail
 refine(tree_newA HA1.out b s).mono ?_
 rintro e w2 ⟨R,sv,rfl,hA2⟩
 have HA2:=Lib.hid hA2
 clear c0 c1 hlt k1 hA2
 go_upto_region 2 with fail
 generalize hS:newT b s=S at *
 have hroot:S.root=S.hd 0:=by rw [← hS];rfl
 haveI hne:Nonempty (InS (fun w'=>TAt 0 R S sv (.slice none 0 0) w')):=⟨⟨w2,HA2.out.head⟩⟩
 have y5:=fun(x:InS (fun w'=>TAt 0 R S sv (.slice none 0 0) w'))=>x.h.blk.cell 5
 simp only [zzD,zzE] at y5
 refine RV.reg_m ⟨fun w'=>TAt 0 R S sv (.slice none 0 0) w',StC B w0 l R S sv (.slice none 0 0),fun _ v=>∃Q,v=.pointer (some ⟨Q,0,none⟩),fun _ r=>.slice (some ⟨r,0,none⟩) 1 1,fun _=>[.int .i64 S.root],fun _=>3⟩ 8 (by kernel_rfl) (by kernel_rfl) (fun k Y w h=>h.tr) (fun k Y w cs ty h=>StC.alloc k Y cs ty h) (fun k Y Z w hp h=>StC.perm k Y Z hp h) (HA2.out.drew) ?_
 simp only [zzF,zzG,zzH,zzI]
 repeat (first
  | (refine RV.m_held (by rfl) (by rfl) (fun K hK=>?_);go_big_quiet_step (fail);refine wpQuiet_nil ?_;refine hK.out _ ?_;clear hK K)
  | (refine RV.m_skip (by rfl) ?_;simp only [Act.put,zzA,zzB,zzC]))
 refine RV.m_call (by rfl) (by rfl) (fun w=>by go_simp;exact⟨rfl,rfl⟩) (⟨_,0,rfl⟩) (fun X wx hx=>?_) (fun v hv=>?_)
 ·refine(mnew_any wx).mono ?_
  rintro e wy ⟨Q,gq,capq,Xm,rfl,hms,hq⟩
  have hx':All B w0 (X ++ trO R S sv (.slice none 0 0) :: l) wx:=hx
  exact⟨_,rfl,⟨Q,rfl⟩,Q,_,Xm,rfl,hms,(hx'.after hq).perm (by simpa using List.perm_middle.symm)⟩
 obtain⟨Q,rfl⟩:=hv
 simp only [Act.put,zzA,zzB,zzC]
 repeat (first
  | (refine RV.m_held (by rfl) (by rfl) (fun K hK=>?_);go_big_quiet_step (fail);refine wpQuiet_nil ?_;refine hK.out _ ?_;clear hK K)
  | (refine RV.m_skip (by rfl) ?_;simp only [Act.put,zzA,zzB,zzC]))
 refine RV.m_made (fun r=>.slice (some ⟨r,0,none⟩) 1 1) [.int .i64 S.root] 3 rfl rfl rfl (by rfl) (by rfl) (fun w=>by go_simp) ?_
 intro r
 simp only [Act.put,zzA,zzB,zzC]
 repeat (first
  | (refine RV.m_held (by rfl) (by rfl) (fun K hK=>?_);go_big_quiet_step (fail);refine wpQuiet_nil ?_;refine hK.out _ ?_;clear hK K)
  | (refine RV.m_skip (by rfl) ?_;simp only [Act.put,zzA,zzB,zzC]))
 refine RV.m_nil ?_
 rintro w5 ⟨Q',nv,X,e1,hms,hA5⟩
 cases e1
 have HA5:=Lib.hid hA5
 clear y5 hne hA5
 go_wp2_with fail
 go_ret
 refine⟨w5.heap.size,R,Q,.slice (some ⟨r,0,none⟩) 1 1,sv,nv,X,rfl,hms,?_⟩
 have h1:=All.conv [] (o':=sl 3 1 (.slice (some ⟨r,0,none⟩) 1 1) 1 (hC [S.hd 0])) HA5.out (by
  have:=HA5.out.P (bk r [.int .i64 S.root] 3) (by simp)
  rw [← hroot]
  exact own_at (n:=1) (size:=1) this rfl (by omega)) (fun k hk=>by cases hk;rfl)
 have h2:=h1.newBk [.pointer (some ⟨R,0,none⟩),.pointer (some ⟨Q,0,none⟩),.slice (some ⟨r,0,none⟩) 1 1] 33
 rw [hms,hS]
 have h3:hsOf S (fun _=>0) [newMN 1 [] [] []]=[S.hd 0]:=rfl
 rw [h3]
 exact h2.perm ((List.Perm.cons _ (List.Perm.cons _ (List.Perm.swap _ _ _))))
end Go.Proofs.YtfelmdkeaacfeaaGreatDoor.W
end
section
namespace Go.Proofs.YtfelmdkeaacfeaaGreatDoor.W
open Go.ChangeShapes Go.WideShapes Go.ChangeAt Go.RowKit Go.Joins
theorem own:ownKnob Tryz.prog.godebug=none:=by kernel_rfl
theorem laidOut:laidOutB Tryz.prog=true:=by kernel_rfl
theorem trodAll_stays {H:Type}{enc:TypeId×Value→H}{P:Program}(hl:laidOutB P=true){W W':World}(hb:Below W.heap.size W W'){sp:Nat→Bool} :
  ∀{ts:List TypeId}{vs:List Value}{ds:List (DataW H)}{ps:List MemPlace},(∀t∈ts,P.readableRec t=true∧t < P.types.size) →
   DataW.TrodAll enc P W 0 (fun _=>true) true ts vs ds ps→(∀p∈ps,p.block < W.heap.size)→(∀p∈ps,sp p.block=true)→DataW.TrodAll enc P W' 0 sp true ts vs ds ps
 | [],[],[],_,_,h,_,_=>h
 | [],_ :: _,_,_,_,h,_,_=>h.elim
 | [],[],_ :: _,_,_,h,_,_=>h.elim
 | _ :: _,[],_,_,_,h,_,_=>h.elim
 | _ :: _,_ :: _,[],_,_,h,_,_=>h.elim
 | t :: ts,v :: vs,d :: ds,ps,hT,⟨p,q,h1,h2,e⟩,hlt,hs=>by
  subst e
  obtain⟨hr,hrow⟩:=hT t (by simp)
  exact⟨p,q,WideElems.Trod_stays hl hr hrow h1 (fun x hx=>hb.same (hlt x (by simp [hx]))) (fun x hx=>hs x (by simp [hx])),
   trodAll_stays hl hb (fun t ht=>hT t (by simp [ht])) h2 (fun x hx=>hlt x (by simp [hx])) (fun x hx=>hs x (by simp [hx])),rfl⟩
section
variable {H : Type} {enc : TypeId × Value → H} {P : Program}
theorem post_of_below {f:Func}{s:ChangeSpec}{apart fresh handsOn again:Bool}{W W':World}{args:Array Value}{v:Value}{ds gs:List (DataW H)}{before pa pv:List MemPlace}
  (hW:DataW.Whole enc P f.params.toList s.vars apart W args.toList ds gs before)
  (hres:∀(b:Nat) (sp:Nat→Bool) (hd:Bool),DataW.TrodAll enc P W' b sp hd f.resultTypes.toList (v.resultList f.resultTypes.size) (s.fn H (ds ++ gs)).results [])
  (hargs:∀sp:Nat→Bool,(∀p∈before,sp p.block=true)→DataW.TrodAll enc P W' 0 sp true f.params.toList args.toList (s.fn H (ds ++ gs)).args pa)
  (hvars:∀sp:Nat→Bool,(∀p∈before,sp p.block=true)→DataW.TrodVars enc P W' sp s.vars (s.fn H (ds ++ gs)).vars pv)
  (hps:before=pa ++ pv)(hb:Below W.heap.size W W')
  (hok:∀(j:Nat) (t:TypeId) (r:Value),f.resultTypes[j]? = some t→(v.resultList f.resultTypes.size)[j]? = some r→Value.okWide P W' .any 0 t r) :
  s.post enc P f apart fresh handsOn again W args v W':=by
 have hlt:∀p∈before,p.block < W.heap.size:=fun p hp=>hW.lt p hp
 have hold:∀p∈before,(fun b=>decide (b < W.heap.size)) p.block=true:=fun p hp=>by simpa using hlt p hp
 refine⟨ds,gs,before,[],pa,pv,hW,hres _ _ _,hargs _ hold,hvars _ hold,World.keptBut_mono (fun p hp=>⟨hp,?_⟩) (hb.frame (·∈before)),fun _=>?_⟩
 ·rw [hps,List.mem_append] at hp
  exact Or.inr hp
 ·obtain⟨_,_,_,_,_,hz,hn⟩:=hW
  refine⟨hok,_,_,([] ++ pa) ++ pv,⟨[] ++ pa,pv,trodAll_append (hargs _ (fun _ _=>rfl)) (hres _ _ _),hvars _ (fun _ _=>rfl),rfl,?_,?_⟩,?_⟩
  ·intro b off hp
   have hin:MemPlace.cell b off∈before:=by rw [hps];simpa using hp
   rw [hb.frozen (hlt _ hin)]
   exact hz b off hin
  ·intro ha
   have:=hn ha
   rw [hps] at this
   simpa using this
  ·intro p hp _
   rw [hps]
   simpa using hp
theorem law_post {f:Func}{s:ChangeSpec}{fresh handsOn again:Bool}{W W':World}{args:Array Value}{ds gs:List (DataW H)}{before:List MemPlace}{tb:TypeId}
  (hl:laidOutB P=true)(hT:∀t∈f.params.toList,P.readableRec t=true∧t < P.types.size)
  (hr:f.resultTypes=#[tb])(htb:P.underlying tb=some .bool)(hv:s.vars=[])
  (hfn:(s.fn H (ds ++ gs)).results=[.lit (.bool true)])(hfa:(s.fn H (ds ++ gs)).args=ds)(hfv:(s.fn H (ds ++ gs)).vars=[])
  (hW:DataW.Whole enc P f.params.toList s.vars false W args.toList ds gs before)(hb:Below W.heap.size W W') :
  s.post enc P f false fresh handsOn again W args (.bool true) W':=by
 have hlt:∀p∈before,p.block < W.heap.size:=fun p hp=>hW.lt p hp
 have hW':=hW
 obtain⟨p,q,hA,hV,rfl,_,_⟩:=hW
 rw [hv] at hV
 obtain⟨rfl,rfl⟩:=trodVars_none hV
 simp only [List.append_nil] at *
 refine post_of_below (pa:=p) (pv:=[]) hW' (fun _ _ _=>?_) (fun sp hs=>?_) (fun sp _=>?_) (by simp) hb (ok_one hr rfl (okWide_bool_mk htb _))
 ·rw [hr]
  simp only [List.append_nil]
  rw [hfn]
  exact trodAll_cons_mk (shut_bool htb _) trodAll_mk0
 ·simp only [List.append_nil]
  rw [hfa]
  exact trodAll_stays hl hb hT hA hlt hs
 ·simp only [List.append_nil]
  rw [hv,hfv]
  rfl
end
end Go.Proofs.YtfelmdkeaacfeaaGreatDoor.W
end
section
namespace Go.Proofs.YtfelmdkeaacfeaaGreatDoor.W
open Go.ChangeShapes Go.WideShapes Go.ChangeAt Go.RowKit Go.Joins Go.Deep
structure OpV.In (o:OpV):Prop where
 k:o.k≤255
 a:o.a≤255
 b:o.b≤255
 c:o.c≤255
 n:-128≤o.n∧o.n≤127
 kk:-128≤o.kk∧o.kk≤127
def zeroOp:OpV:=⟨0,0,0,0,[],[],0,0⟩
theorem zeroOp_in:zeroOp.In:=⟨by decide,by decide,by decide,by decide,by decide,by decide⟩
def InP (w:World)(A:Option Addr)(n:Nat)(f:Nat→OpV):Prop:=0 < n→∃b off,A=some ⟨b,off,none⟩∧b < w.heap.size∧∀j,j < n →
 w.cell? ⟨b,off+j*8,none⟩=some (.int .u8 ((f j).k:Int))∧w.cell? ⟨b,off+j*8+1,none⟩=some (.int .u8 ((f j).a:Int))∧w.cell? ⟨b,off+j*8+2,none⟩=some (.int .u8 ((f j).b:Int))∧w.cell? ⟨b,off+j*8+3,none⟩=some (.int .u8 ((f j).c:Int)) ∧
 w.cell? ⟨b,off+j*8+4,none⟩=some (.string ⟨(f j).s.toArray⟩)∧w.cell? ⟨b,off+j*8+5,none⟩=some (.string ⟨(f j).t.toArray⟩)∧w.cell? ⟨b,off+j*8+6,none⟩=some (.int .i8 (f j).n)∧w.cell? ⟨b,off+j*8+7,none⟩=some (.int .i8 (f j).kk)
theorem byte_in {x:Int}(h:(Lit.int .u8 x).wf=true):0≤x∧x≤255:=by
 have:=bounds_u8 h
 omega
theorem byte_nat {x:Int}(h:(Lit.int .u8 x).wf=true):x.toNat≤255∧((x.toNat:Nat):Int)=x:=by
 have:=byte_in h
 omega
theorem str_list (s:ByteArray):(⟨s.data.toList.toArray⟩:ByteArray)=s:=by
 cases s;simp
section
variable {H : Type} {enc : TypeId × Value → H} {P : Program} {w : World}
theorem open_tops {r:Reach}{b0:Nat}{t e:TypeId}{f0 f1 f2 f3 f4 f5 f6 f7:Field}{v:Value}{d:DataW H}{ps:List MemPlace}(ht:P.underlying t=some (.slice e))(he:P.underlying e=some (.struct #[f0,f1,f2,f3,f4,f5,f6,f7]))
  (hone:oneCellFields P #[f0,f1,f2,f3,f4,f5,f6,f7]=true)(hC:P.cellsOf e=8)(e0:P.underlying f0.type=some (.int .u8))(e1:P.underlying f1.type=some (.int .u8))(e2:P.underlying f2.type=some (.int .u8))(e3:P.underlying f3.type=some (.int .u8))(e4:P.underlying f4.type=some .string)(e5:P.underlying f5.type=some .string)(e6:P.underlying f6.type=some (.int .i8))(e7:P.underlying f7.type=some (.int .i8))
  (hval:Value.okWide P w r b0 t v)(h:DataW.Trod enc P w 0 (fun _=>true) true t v d ps) :
  ∃A n c,∃f:Nat→OpV,v=.slice A n c∧n≤9223372036854775807∧InP w A n f∧∀j,(f j).In:=by
 obtain⟨A,n,c,rfl⟩:=okWide_slice ht hval
 obtain⟨fuel,hf⟩:=h
 rcases open_slice ht hf with ⟨hcs,_⟩ | ⟨a,len,cap,m,k,D,Pl,hcs,_,hl,hmx,hm,_,hx⟩
 ·simp [Value.cells] at hcs
  obtain⟨rfl,rfl,rfl⟩:=hcs
  exact⟨none,0,0,fun _=>zeroOp,rfl,Nat.zero_le _,fun h=>absurd h (by omega),fun _=>zeroOp_in⟩
 ·simp [Value.cells] at hcs
  obtain⟨rfl,rfl,rfl⟩:=hcs
  simp only [if_true] at hm
  subst hm
  rw [hC] at hx
  have each:∀i,∃q:OpV,q.In ∧
    (i < n→w.cell? (a.add (i*8))=some (.int .u8 (q.k:Int))∧w.cell? (a.add (i*8+1))=some (.int .u8 (q.a:Int))∧w.cell? (a.add (i*8+2))=some (.int .u8 (q.b:Int))∧w.cell? (a.add (i*8+3))=some (.int .u8 (q.c:Int))∧w.cell? (a.add (i*8+4))=some (.string ⟨q.s.toArray⟩)∧w.cell? (a.add (i*8+5))=some (.string ⟨q.t.toArray⟩)∧w.cell? (a.add (i*8+6))=some (.int .i8 q.n)∧w.cell? (a.add (i*8+7))=some (.int .i8 q.kk)):=by
   intro i
   by_cases hi:i < n
   ·obtain⟨cs,h1,h2⟩:=hx i (by omega)
    obtain⟨_,hlen,hcell⟩:=World.cells?_some h1
    obtain⟨o0,k0⟩:=hone_of hone 0 f0 rfl
    obtain⟨o1,k1⟩:=hone_of hone 1 f1 rfl
    obtain⟨o2,k2⟩:=hone_of hone 2 f2 rfl
    obtain⟨o3,k3⟩:=hone_of hone 3 f3 rfl
    obtain⟨o4,k4⟩:=hone_of hone 4 f4 rfl
    obtain⟨o5,k5⟩:=hone_of hone 5 f5 rfl
    obtain⟨o6,k6⟩:=hone_of hone 6 f6 rfl
    obtain⟨o7,k7⟩:=hone_of hone 7 f7 rfl
    obtain⟨xs,k',_,_,_,hxl,hg⟩:=DataW.trod_struct he h2
    match xs,hxl,cs,hlen with
    | [y0,y1,y2,y3,y4,y5,y6,y7],_,[v0,v1,v2,v3,v4,v5,v6,v7],_ =>
     have g0:=hg 0 f0 rfl
     have g1:=hg 1 f1 rfl
     have g2:=hg 2 f2 rfl
     have g3:=hg 3 f3 rfl
     have g4:=hg 4 f4 rfl
     have g5:=hg 5 f5 rfl
     have g6:=hg 6 f6 rfl
     have g7:=hg 7 f7 rfl
     simp [o0,o1,o2,o3,o4,o5,o6,o7,k0,k1,k2,k3,k4,k5,k6,k7] at g0 g1 g2 g3 g4 g5 g6 g7
     obtain⟨x0,z0,_,w0⟩:=DataW.trod_int e0 g0
     obtain⟨x1,z1,_,w1⟩:=DataW.trod_int e1 g1
     obtain⟨x2,z2,_,w2⟩:=DataW.trod_int e2 g2
     obtain⟨x3,z3,_,w3⟩:=DataW.trod_int e3 g3
     obtain⟨x4,z4,_⟩:=DataW.trod_string e4 g4
     obtain⟨x5,z5,_⟩:=DataW.trod_string e5 g5
     obtain⟨x6,z6,_,w6⟩:=DataW.trod_int e6 g6
     obtain⟨x7,z7,_,w7⟩:=DataW.trod_int e7 g7
     simp at z0 z1 z2 z3 z4 z5 z6 z7
     subst z0 z1 z2 z3 z4 z5 z6 z7
     obtain⟨r0,r0'⟩:=byte_nat w0
     obtain⟨r1,r1'⟩:=byte_nat w1
     obtain⟨r2,r2'⟩:=byte_nat w2
     obtain⟨r3,r3'⟩:=byte_nat w3
     refine⟨⟨x0.toNat,x1.toNat,x2.toNat,x3.toNat,x4.data.toList,x5.data.toList,x6,x7⟩,⟨r0,r1,r2,r3,bounds_i8 w6,bounds_i8 w7⟩,fun _=>?_⟩
     simp only [r0',r1',r2',r3',str_list]
     refine⟨?_,?_,?_,?_,?_,?_,?_,?_⟩
     ·have:=hcell 0 (by omega);simpa [Addr.add] using this
     ·have:=hcell 1 (by omega);rw [Go.Deep.add_add] at this;simpa using this
     ·have:=hcell 2 (by omega);rw [Go.Deep.add_add] at this;simpa using this
     ·have:=hcell 3 (by omega);rw [Go.Deep.add_add] at this;simpa using this
     ·have:=hcell 4 (by omega);rw [Go.Deep.add_add] at this;simpa using this
     ·have:=hcell 5 (by omega);rw [Go.Deep.add_add] at this;simpa using this
     ·have:=hcell 6 (by omega);rw [Go.Deep.add_add] at this;simpa using this
     ·have:=hcell 7 (by omega);rw [Go.Deep.add_add] at this;simpa using this
   ·exact⟨zeroOp,zeroOp_in,fun h=>absurd h hi⟩
  obtain⟨F,hF⟩:=Classical.axiomOfChoice each
  refine⟨some a,n,_,F,rfl,by unfold maxLen at hmx;omega,fun hn=>?_,fun j=>(hF j).1⟩
  have hc:=fun i hi=>(hF i).2 hi
  clear hF each
  obtain⟨b,off,el⟩:=a
  have h0:=(hc 0 hn).1
  have hel:el=none:=by simpa [Addr.add] using World.cell?_spot h0
  subst hel
  refine⟨b,off,rfl,?_,fun i hi=>?_⟩
  ·have:=World.block_lt_of_cell? _ _ h0
   rw [Go.WideShapes.add_plain] at this
   exact this
  ·obtain⟨q0,q1,q2,q3,q4,q5,q6,q7⟩:=hc i hi
   rw [Go.WideShapes.add_plain] at q0 q1 q2 q3 q4 q5 q6 q7
   exact⟨q0,q1,q2,q3,q4,q5,q6,q7⟩
end
def FewR (n:Nat)(f:Nat→OpV)(w:World)(e:Ending)(w':World):Prop:=∃b:Bool,e=.returned (.bool b)∧(b=true→n≤60∧∀j,j < n→(f j).s.length≤40∧(f j).t.length≤40)∧w'=w
theorem tfew_any {w:World}(A:Option Addr)(n c:Nat)(f:Nat→OpV)(h:InP w A n f)(hn:n≤9223372036854775807) :
  Calls Tryz.prog 11 #[.slice A n c] w (FewR n f w):=by
 have H:=Lib.hid h
 clear h
 go_enter Tryz.func11,Tryz.ntmps11
 go_wp2_with fail
 go_loop [3] (fun iv=>∃k:Nat,k≤n∧iv=.int .i64 (k:Int)∧∀j,j < k→(f j).s.length≤40∧(f j).t.length≤40) (fun iv=>n - (intOf iv).toNat)
 case atStart=>exact⟨0,Nat.zero_le _,rfl,fun j hj=>absurd hj (Nat.not_lt_zero j)⟩
 case round =>
  obtain⟨k,hkn,rfl,hS⟩:=hrel
  have HS:=Lib.hid hS
  clear hS
  by_cases hkl:k < n
  ·obtain⟨b,off,rfl,hb,hc⟩:=H.out (by omega)
   obtain⟨_,_,_,_,q4,q5,_,_⟩:=hc k hkl
   have hs1:(⟨(f k).s.toArray⟩:ByteArray).size=(f k).s.length:=by simp [ByteArray.size]
   have hs2:(⟨(f k).t.toArray⟩:ByteArray).size=(f k).t.length:=by simp [ByteArray.size]
   generalize hq:(⟨(f k).s.toArray⟩:ByteArray)=sk at *
   generalize hq2:(⟨(f k).t.toArray⟩:ByteArray)=tk at *
   clear hc hq hq2
   by_cases h20:40 < sk.size
   ·have d1:decide ((40:Int) < (sk.size:Int))=true:=by simp;omega
    go_wp2_with fail
    go_ret
    exact⟨false,rfl,(fun e=>by cases e),rfl⟩
   ·have d1:decide ((40:Int) < (sk.size:Int))=false:=by simp;omega
    by_cases h21:40 < tk.size
    ·have d2:decide ((40:Int) < (tk.size:Int))=true:=by simp;omega
     go_wp2_with fail
     go_ret
     exact⟨false,rfl,(fun e=>by cases e),rfl⟩
    ·have d2:decide ((40:Int) < (tk.size:Int))=false:=by simp;omega
     go_wp2_with fail
     go_round
     case rel =>
      refine⟨k+1,by omega,by go_num,fun j hj=>?_⟩
      by_cases e:j=k
      ·subst e;omega
      ·exact HS.out j (by omega)
     case measure=>simp [intOf];omega
  ·obtain rfl:k=n:=by omega
   by_cases h2:k≤60
   ·have d2:decide ((k:Int)≤60)=true:=by simp;omega
    go_wp2_with fail
    go_ret
    exact⟨true,rfl,fun _=>⟨h2,HS.out⟩,rfl⟩
   ·have d2:decide ((k:Int)≤60)=false:=by simp;omega
    go_wp2_with fail
    go_ret
    exact⟨false,rfl,(fun e=>by cases e),rfl⟩
end Go.Proofs.YtfelmdkeaacfeaaGreatDoor.W
end
