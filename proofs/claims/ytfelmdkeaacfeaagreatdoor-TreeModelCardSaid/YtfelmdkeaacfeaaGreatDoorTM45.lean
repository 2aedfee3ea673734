/- Texts joined: Val Make DeepL LwM. -/
import Derived.Test.YtfelmdkeaacfeaaGreatDoorTM27
import Derived.Test.YtfelmdkeaacfeaaGreatDoorTM5
import Derived.Test.YtfelmdkeaacfeaaGreatDoorTM1
import Derived.Test.YtfelmdkeaacfeaaGreatDoorTM11
import Derived.Deep.CutBlock
import Derived.Test.YtfelmdkeaacfeaaGreatDoorTM43
import Derived.Test.YtfelmdkeaacfeaaGreatDoorTM44
set_option maxRecDepth 100000
set_option maxHeartbeats 40000000
set_option linter.unusedVariables false
set_option linter.unusedSimpArgs false
section
namespace Go.Proofs.YtfelmdkeaacfeaaGreatDoor.W
open Go.RowKit
attribute [local go_sem] Oper.semAt_some
end Go.Proofs.YtfelmdkeaacfeaaGreatDoor.W
end
section
namespace Go.Proofs.YtfelmdkeaacfeaaGreatDoor.W
open Go.RowKit
theorem make_one {B R:Nat}{S:Tr}{sv fv:Value}{w:World}(h:TAt B R S sv fv w)(hf:S.free=[])(hl:S.slots.length < 20000)(c:UInt8)(hc:Ltr c) :
  Calls Tryz.prog 39 #[.pointer (some ⟨R,0,none⟩),.int .i64 2,.string ⟨#[c]⟩,.string ⟨#[]⟩,.slice none 0 0] w fun e w'=>∃sv',e=.returned (.tuple #[.int .i64 (S.hd S.slots.length),.int .i64 0]) ∧
   TAt B R (S.snoc (newN 2 [c])) sv' fv w'∧Chg (fun k=>k=R∨sv.ownBlock=some k) w w'∧(sv'.ownBlock=sv.ownBlock∨∃k,sv'.ownBlock=some k∧w.heap.size≤k):=by
 have HE:=Lib.hid (elementName_one c hc)
 have HT:=Lib.hid h
 have hlv:S.live≤S.slots.length:=List.length_filter_le _ _
 have hlt:=h.blk.lt
 clear h hc
 go_enter Tryz.func39,Tryz.ntmps39
 go_wp2_with fail
 have hb0:=(Below.refl w.heap.size w).alloc (Nat.le_refl _) (.cells #[.int .i64 2,.string ⟨#[]⟩,.slice none 0 0,.string ⟨#[]⟩,.int .i64 0,.int .i64 0,.int .i64 0,.int .i64 0,.int .i64 0] 62)
 have hx0:=Blk.new w [.int .i64 2,.string ⟨#[]⟩,.slice none 0 0,.string ⟨#[]⟩,.int .i64 0,.int .i64 0,.int .i64 0,.int .i64 0,.int .i64 0] 62
 have HB0:=Lib.hid hb0
 have HX0:=Lib.hid (show Blk (w.alloc (.cells #[.int .i64 2,.string ⟨#[]⟩,.slice none 0 0,.string ⟨#[]⟩,.int .i64 0,.int .i64 0,.int .i64 0,.int .i64 0,.int .i64 0] 62)) _ _ _ from hx0)
 clear hb0 hx0
 generalize w.alloc (.cells #[.int .i64 2,.string ⟨#[]⟩,.slice none 0 0,.string ⟨#[]⟩,.int .i64 0,.int .i64 0,.int .i64 0,.int .i64 0,.int .i64 0] 62)=w1 at *
 refine(HE.out _).mono ?_
 rintro e w2 ⟨rfl,hb2⟩
 go_wp2_with fail
 refine(attrs_nil _).mono ?_
 rintro e w3 ⟨rfl,hb3⟩
 have hb13:=bthen hb2 hb3
 have hx3:=HX0.out.below hb13
 have c1:=hx3.cell 1
 simp only [zzD,zzE] at c1
 have f1:=hx3.free 1
 have HX3:=Lib.hid (hx3.set 1 (.string ⟨#[c]⟩))
 have hB3:=HB0.out.trans (hb13.mono HB0.out.size)
 have hB4:=hB3.setCell (p:=⟨w.heap.size,1,none⟩) (Nat.le_refl _) (.string ⟨#[c]⟩)
 have HB4:=Lib.hid hB4
 clear hx3 hb2 hb3 hb13 hB3 hB4
 go_upto_region 8 with fail
 clear c1 f1
 generalize w3.setCell ⟨w.heap.size,1,none⟩ (.string ⟨#[c]⟩)=w4 at *
 go_wp2_with fail
 go_loopw [32] (fun iv wr=>iv=.int .i64 0∧wr=w4) (fun _ _=>0)
 case atStart=>exact⟨rfl,rfl⟩
 case round =>
  obtain⟨rfl,rfl⟩:=hrel
  have hT4:=HT.out.below HB4.out
  have HL:=Lib.hid (len_any hT4)
  have x2:=HX3.out.cell 2
  have x3:=HX3.out.cell 3
  simp only [List.set_cons_succ,List.set_cons_zero,zzD,zzE] at x2 x3
  have HT4:=Lib.hid hT4
  clear hT4
  have d1:decide ((20000:Int)≤(S.live:Int))=false:=by simp;omega
  go_wp2_with fail
  refine HL.out.mono ?_
  rintro e w5 ⟨rfl,hw⟩
  rw [hw]
  clear hw
  go_wp2_with fail
  refine(long_any ⟨#[]⟩ (by show 0≤_;omega) _).mono ?_
  rintro e w6 ⟨rfl,hw⟩
  rw [hw,show decide (1048576 < (⟨#[]⟩:ByteArray).size)=false from rfl]
  clear hw
  go_wp2_with fail
  refine(containsFunc_nil _ _).mono ?_
  rintro e w7 ⟨rfl,hw⟩
  rw [hw]
  clear hw d1 x2 x3
  go_upto_region 18 with fail
  have hne:=stb_ne wr
  have hgl:=HX3.out.lt
  have xs:=fun(x:InS (StB wr))=>HX3.out.below x.h
  simp only [List.set_cons_succ,List.set_cons_zero] at xs
  have z0:=fun x=>(xs x).cell 0
  have z1:=fun x=>(xs x).cell 1
  have z2:=fun x=>(xs x).cell 2
  have z3:=fun x=>(xs x).cell 3
  have z4:=fun x=>(xs x).cell 4
  have z5:=fun x=>(xs x).cell 5
  have z6:=fun x=>(xs x).cell 6
  have z7:=fun x=>(xs x).cell 7
  have z8:=fun x=>(xs x).cell 8
  simp only [zzD,zzE] at z0 z1 z2 z3 z4 z5 z6 z7 z8
  have HTX:=Lib.hid (fun w9 (hb:Below wr.heap.size wr w9)=>add_new (HT4.out.below hb) hf (by omega) (newN 2 [c]) ⟨none,0,rfl,.inl rfl⟩)
  clear xs
  refine reg_b (fun _=>undef) 4 (by kernel_rfl) (by kernel_rfl) ?_
  simp only [zzF,zzG,zzH,zzI]
  repeat (first
   | (refine m_held (by rfl) (by rfl) (fun K hK=>?_);go_big_quiet_step (fail);refine wpQuiet_nil ?_;refine hK.out _ ?_;clear hK K)
   | (refine m_skip (by rfl) ?_;simp only [Act.put,zzA,zzB,zzC]))
  refine m_nil ?_
  intro w8 h8
  clear z0 z1 z2 z3 z4 z5 z6 z7 z8 hne
  go_wp2_with fail
  refine(HTX.out _ h8).mono ?_
  rintro e w9 ⟨sv',rfl,hT9,hC9,hsv⟩
  have H9:=Lib.hid hT9
  have HC:=Lib.hid hC9
  have HS:=Lib.hid hsv
  clear hT9 hC9 hsv
  go_wp2_with fail
  go_ret2
  have h8':Below w.heap.size w w8:=HB4.out.trans (h8.mono HB4.out.size)
  refine⟨sv',rfl,H9.out,(Chg.of_below h8').trans HC.out (fun _ _ h=>h),?_⟩
  rcases HS.out with e | ⟨k,e,hk⟩
  ·exact .inl e
  ·exact .inr ⟨k,e,Nat.le_trans h8'.size hk⟩
theorem TAt.sl {B R:Nat}{S:Tr}{sv fv:Value}{w:World}(h:TAt B R S sv fv w)(hn:0 < S.slots.length):∃g cap,sv=.slice (some ⟨g,0,none⟩) S.slots.length cap:=slots_some h hn
theorem chg_low {B R:Nat}{S:Tr}{sv fv:Value}{w0 w w':World}(h:TAt B R S sv fv w)(hb:Below B w0 w)(k:Chg (fun k=>k=R∨sv.ownBlock=some k) w w'):Below B w0 w' :=
 hb.trans (k.below (Nat.le_trans h.base (Nat.le_of_lt h.blk.lt)) (fun j hj=>by
  rcases hj with rfl | e
  ·exact h.base
  ·exact(h.slots.lt j e).1))
theorem chg_low1 {B R g cap:Nat}{S:Tr}{fv:Value}{w0 w w':World}(h:TAt B R S (.slice (some ⟨g,0,none⟩) S.slots.length cap) fv w)(hb:Below B w0 w)(k:Chg (fun k=>k=g) w w'):Below B w0 w' :=
 hb.trans (k.below (Nat.le_trans h.base (Nat.le_of_lt h.blk.lt)) (fun j hj=>by subst hj;exact(h.slots.lt j rfl).1))
theorem awake_any (w:World):Calls Tryz.prog 10 #[] w fun e w'=>e=.returned (.bool true)∧Below w.heap.size w w':=by
 go_enter Tryz.func10,Tryz.ntmps10
 go_wp2_with fail
 refine(tree_new 0 0 w).mono ?_
 rintro e w1 ⟨R,sv,rfl,hT1,hb1⟩
 have HM:=Lib.hid (make_one hT1 rfl (by simp [newT]) 112 ltr_p)
 have HB1:=Lib.hid hb1
 have HT1:=Lib.hid hT1
 clear hb1 hT1
 go_wp2_with fail
 refine HM.out.mono ?_
 rintro e w2 ⟨sv2,rfl,hT2,hC2,_⟩
 obtain⟨g,cap,rfl⟩:=hT2.sl (by rw [snoc_len];omega)
 have hB2:=chg_low HT1.out HB1.out hC2
 have h0:=start_c1 0 0
 obtain⟨a1,a2,a3,a4,a5,a6,a7⟩:=C1.made ltr_p h0 (by omega)
 have hlk:=C1.lk ltr_p h0 (by omega) (by omega)
 obtain⟨np,hp⟩:=Option.isSome_iff_exists.1 a2
 have HI:=Lib.hid (insert_end hT2 a1.lk 0 1 np _ hp a7 a4 a5 (C1.may ltr_p h0 (by omega) hp a7) (by rw [a3,hgt_leaf a6];decide) hlk)
 have r5:=hT2.blk.cell 5
 simp only [zzD,zzE] at r5
 have HT2:=Lib.hid hT2
 have HB2:=Lib.hid hB2
 clear hT2 hB2 hC2 h0 a1 a2 a3 a4 a5 a6 a7 hlk hp HM HT1
 go_wp2_with fail
 refine HI.out.mono ?_
 rintro e w3 ⟨S',v,hlk,rfl,hrc,hT3,hC3⟩
 have hB3:=chg_low1 HT2.out HB2.out hC3
 obtain⟨gr,cr,rfl,_⟩:=own_some (own_low hrc (Nat.zero_le _)) (by simp)
 have k0:=hrc.cells (g:=gr) rfl 0 (.int .i64 1) rfl
 rw [show(⟨gr,0,none⟩:Addr).add 0=⟨gr,0,none⟩ by unfold Addr.add;split <;> simp_all] at k0
 have e2:(newT 0 0).hd (newT 0 0).slots.length=2:=by decide
 have HB3:=Lib.hid hB3
 simp only [e2,List.length_singleton,List.length_cons,List.length_nil]
 clear hrc hT3 hC3 hlk HI r5 HT2 e2 hB3
 go_wp2_with fail
 go_ret
 exact⟨rfl,HB3.out⟩
theorem InP.below {w w':World}{A:Option Addr}{n:Nat}{f:Nat→OpV}(h:InP w A n f)(hb:Below w.heap.size w w'):InP w' A n f:=fun hn=>by
 obtain⟨b,off,e,hl,hc⟩:=h hn
 refine⟨b,off,e,Nat.lt_of_lt_of_le hl hb.size,fun j hj=>?_⟩
 obtain⟨h0,h1,h2,h3,h4,h5,h6,h7⟩:=hc j hj
 exact⟨cell_keep hb h0,cell_keep hb h1,cell_keep hb h2,cell_keep hb h3,cell_keep hb h4,cell_keep hb h5,cell_keep hb h6,cell_keep hb h7⟩
theorem OpV.In.ok {o:OpV}(h:o.In)(h1:o.s.length≤40∧o.t.length≤40):o.Ok:=⟨h.k,h.a,h.b,h.c,h1.1,h1.2,h.n,h.kk⟩
def TwR (w:World)(g:Nat)(i:Nat)(wr:World):Prop :=
 ∃R Q hv sv fv nv S K d X σ,All w.heap.size w (twL g R Q hv (hsOf S σ (ms X)) S sv fv nv X ++ []) wr∧TwS True (fun _=>False) i 0 S K d (ms X) σ
def LmR (w:World)(g n:Nat)(iv:Value)(wr:World):Prop:=∃i:Nat,i≤n∧iv=.int .i64 (i:Int)∧TwR w g i wr
theorem treeModel_walk {w:World}(hL:Laid w)(A:Option Addr)(n c:Nat)(f:Nat→OpV)(hP:InP w A n f)(hn:n≤9223372036854775807)(hf:∀j,(f j).In) :
  Calls Tryz.prog 3 #[.slice A n c] w fun e w'=>e=.returned (.bool true)∧Below w.heap.size w w':=by
 have HL:=Lib.hid hL
 have HP:=Lib.hid hP
 have HF:=Lib.hid hf
 clear hL hP hf
 go_enter Tryz.func3,Tryz.ntmps3
 go_wp2_with fail
 refine(awake_any w).mono ?_
 rintro e w1 ⟨rfl,hb1⟩
 have HB1:=Lib.hid hb1
 clear hb1
 go_wp2_with fail
 refine(tfew_any A n c f (HP.out.below HB1.out) hn).mono ?_
 rintro e w2 ⟨b,rfl,hfew,hw⟩
 rw [hw]
 clear hw
 cases b with
 | false =>
  go_wp2_with fail
  refine(awake_any w1).mono ?_
  rintro e w3 ⟨rfl,hb3⟩
  have HB3:=Lib.hid (bthen HB1.out hb3)
  clear hb3
  go_wp2_with fail
  go_ret
  exact⟨rfl,HB3.out⟩
 | true =>
  obtain⟨hn60,hstr⟩:=hfew rfl
  have HS:=Lib.hid hstr
  clear hfew hstr
  go_wp2_with fail
  refine(start_any ((All.start w).still HB1.out) 3 2).mono ?_
  rintro e w3 ⟨g,R,Q,hv,sv,nv,X,rfl,hms,hA⟩
  have HR:=Lib.hid (show LmR w g n (.int .i64 0) w3 from⟨0,Nat.zero_le _,rfl,R,Q,hv,sv,_,nv,_,_,_,X,_,hA,hms ▸ tws_start 3 2⟩)
  clear hA hms
  go_wp2_with fail
  go_loopw [4] (fun iv wr=>LmR w g n iv wr) (fun iv _=>n - intN iv)
  case atStart=>exact HR.out
  case round =>
   obtain⟨i,hi,rfl,R,Q,hv,sv,fv,nv,S,K,d,X,σ,hA,hT⟩:=hrel
   have HA:=Lib.hid hA
   have HT:=Lib.hid hT
   have hHl:(hsOf S σ (ms X)).length=X.length:=by rw [hsOf_len,ms_len]
   obtain⟨hva,hvc,hvv⟩:=own_shape (tw_hs hA)
   rw [hHl] at hvv
   subst hvv
   have g2:=(tw_bk hA).cell 2
   simp only [zzD,zzE] at g2
   have hgl:=(tw_bk hA).lt
   clear hA hT hHl
   by_cases hin:i < n
   ·have hii:(i:Int) < (n:Int):=by omega
    by_cases hx3:X.length < 300
    ·have hxx:decide ((X.length:Int) < 300)=true:=by simp;omega
     obtain⟨b,off,rfl,hbl,hc⟩:=(HP.out.below HA.out.below) (by omega)
     obtain⟨p0,p1,p2,p3,p4,p5,p6,p7⟩:=hc i hin
     clear hc
     go_wp2_with fail
     refine(do_any (HL.out.below HA.out.below) HA.out HT.out (by omega) (by omega) (fun _=>by omega) (by omega) (f i) ((HF.out i).ok (HS.out i hin)) (fun y h=>h.elim)).mono ?_
     rintro e w5 ⟨v,ok,S',K',d',X',σ',hv',sv',fv',nv',ts,rs,dl,rfl,hA5,hT5,hex,_⟩
     obtain rfl:ok=true:=(hex trivial).1
     have HA5:=Lib.hid hA5.tail
     have HT5:=Lib.hid hT5
     clear hA5 hT5 hex p0 p1 p2 p3 p4 p5 p6 p7 g2 hgl
     go_wp2_with fail
     refine(equal_any HA5.out HT5.out trivial (by have:=HT5.out.tw.few;rwa [ms_len] at this)).mono ?_
     rintro e w6 ⟨rfl,hb6⟩
     have HA6:=Lib.hid (HA5.out.still hb6)
     clear hb6
     go_wp2_with fail
     go_roundw
     case rel=>exact⟨i+1,by omega,by go_num,_,_,_,_,_,_,_,_,_,_,_,HA6.out,HT5.out⟩
     case measure=>simp [intN];omega
    ·have hxx:decide ((X.length:Int) < 300)=false:=by simp;omega
     go_wp2_with fail
     go_ret
     exact⟨rfl,HA.out.below⟩
   ·obtain rfl:i=n:=by omega
    go_wp2_with fail
    go_ret
    exact⟨rfl,HA.out.below⟩
end Go.Proofs.YtfelmdkeaacfeaaGreatDoor.W
end
