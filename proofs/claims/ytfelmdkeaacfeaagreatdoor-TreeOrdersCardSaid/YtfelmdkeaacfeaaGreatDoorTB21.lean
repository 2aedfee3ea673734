/- Texts joined: MkT MkE TwM DropB. -/
import Derived.Test.YtfelmdkeaacfeaaGreatDoorTB1
import Derived.Test.YtfelmdkeaacfeaaGreatDoorTB19
import Derived.Test.YtfelmdkeaacfeaaGreatDoorTB20
import Derived.Test.YtfelmdkeaacfeaaGreatDoorTB5
import Derived.Deep.CutBlock
import Derived.Test.YtfelmdkeaacfeaaGreatDoorTB16
import Derived.Test.YtfelmdkeaacfeaaGreatDoorTB12
set_option maxRecDepth 100000
set_option maxHeartbeats 40000000
set_option linter.unusedVariables false
set_option linter.unusedSimpArgs false
section
namespace Go.Proofs.YtfelmdkeaacfeaaGreatDoor.W
open Go.RowKit
def BQ (kind:Int)(name:List UInt8)(av:Value)(al:List jR)(data:List UInt8):Nd:=⟨kind,name,av,al,data,0,0,0,0,0⟩
inductive uX (W:Nat) (S:Tr) (kind:Int) (name data:List UInt8) (al:List jR):Tr→Int→Int→Prop
 | kind (h2:kind≠2) (h3:kind≠3) (h4:kind≠4):uX W S kind name data al S 0 1
 | arg (h:kind=2) (hn:(uB name && jL al)=false):uX W S kind name data al S 0 1
 | many (h:kind=2) (hn:(uB name && jL al)=true) (h2:64 < al.length):uX W S kind name data al S 0 5
 | el (av:Value) (h:kind=2) (hn:(uB name && jL al)=true) (h2:al.length≤64) (hfr:∀k,av.ownBlock=some k→W≤k):uX W S kind name data al (S.add (BQ 2 name av (al.map fun a=>(a.1,fix a.2)) [])) (S.hd S.mV) 0
 | tx (h:kind=3∨kind=4):uX W S kind name data al (S.add (BQ kind [] (.slice none 0 0) [] (fix data))) (S.hd S.mV) 0
def sW (B R:Nat)(S:Tr)(sv fv:Value)(w:World)(kind:Int)(name data:List UInt8)(al:List jR)(e:Ending)(w':World):Prop :=
 ∃S' sv' fv' h en,uX w.heap.size S kind name data al S' h en∧e=.returned (.tuple #[.int .i64 h,.int .i64 en])∧fZ B R S' sv' fv' w'∧dU (fun k=>k=R∨sv.ownBlock=some k) w w'∧(sv'.ownBlock=sv.ownBlock∨∃k,sv'.ownBlock=some k∧w.heap.size≤k)∧fv'.ownBlock=fv.ownBlock
theorem sW.same {B R:Nat}{S:Tr}{sv fv:Value}{w w':World}{kind:Int}{name data:List UInt8}{al:List jR}(h:fZ B R S sv fv w)(hb:Below w.heap.size w w'){en:Int}(hm:uX w.heap.size S kind name data al S 0 en):sW B R S sv fv w kind name data al (.returned (.tuple #[.int .i64 0,.int .i64 en])) w' :=
 ⟨S,sv,fv,0,en,hm,rfl,h.below hb,dU.of_below hb,.inl rfl,rfl⟩
theorem Vb {B R:Nat}{S:Tr}{sv fv:Value}{w:World}(h:fZ B R S sv fv w)(hT:Laid w)(hfr:∀i∈S.free,S.slots[i]? = some none)(hfl:S.free.length≤1000000)(hl:S.slots.length < 20000)(name data:List UInt8)(hd:data.length≤1000)(v:Value)(al:List jR) :
  Calls Tryz.prog 39 #[.pointer (some ⟨R,0,none⟩),(.int .i64 3),.string ⟨name.toArray⟩,.string ⟨data.toArray⟩,v] w (sW B R S sv fv w 3 name data al):=by
 have HRp:=ae (fun wx (hb:Below w.heap.size w wx)=>nT data wx (by omega) (hT.below hb))
 have HM:=ae (uX.tx (W:=w.heap.size) (S:=S) (name:=name) (data:=data) (al:=al) (kind:=3) (by decide))
 have hfx:=mO data
 have HTt:=ae h
 have hlv:S.live≤S.slots.length:=gU _ _
 have hlt:=h.blk.lt
 have HA:=ae (fun w9 (hb:Below w.heap.size w w9)=>add_any (h.below hb) hfr hfl (by omega) (BQ 3 [] (.slice none 0 0) [] (fix data)) ⟨none,0,rfl,.inl rfl⟩)
 clear h hT hfr hfl
 go_enter Tryz.func39,Tryz.ntmps39
 go_wp2_with fail
 have hx0:=dD.new w (jd (BQ 3 [] (.slice none 0 0) [] [])) 62
 have hb0:=(ak w.heap.size w).alloc (au _) (.cells (jd (BQ 3 [] (.slice none 0 0) [] [])).toArray 62)
 refine(HRp.out _ hb0).mono ?_
 rintro e w2 ⟨rfl,hb2⟩
 have hb02:=aV hb0 hb2
 have hx2:=dD.below hx0 hb2
 simp only [jd,BQ,dA] at hx2
 have c2:=hx2.cell 2
 have c3:=hx2.cell 3
 simp only [fQ,fP] at c2 c3
 have f3:=hx2.free 3
 have HX3:=ae (hx2.set 3 (.string ⟨(fix data).toArray⟩))
 have HB3:=ae (hb02.setCell (p:=⟨w.heap.size,3,none⟩) (au _) (.string ⟨(fix data).toArray⟩))
 clear hb0 hb2 hb02 hx0 hx2
 go_upto_region 16 with fail
 clear c2 c3 f3
 generalize w2.setCell ⟨w.heap.size,3,none⟩ (.string ⟨(fix data).toArray⟩)=w3 at *
 have hT3:=HTt.out.below HB3.out
 have HL:=ae (len_any hT3)
 have x2:=HX3.out.cell 2
 have x3:=HX3.out.cell 3
 simp only [List.set_cons_succ,List.set_cons_zero,fQ,fP] at x2 x3
 have zR:=hT3.blk.free
 clear hT3
 have d1:decide ((20000:Int)≤(S.live:Int))=false:=by simp;omega
 go_wp2_with fail
 refine HL.out.mono ?_
 rintro e w5 ⟨rfl,hw⟩
 rw [hw]
 clear hw
 go_wp2_with fail
 refine(lW ⟨(fix data).toArray⟩ (by rw [Gl];omega) _).mono ?_
 rintro e w6 ⟨rfl,hw⟩
 rw [hw,show decide (1048576 < (⟨(fix data).toArray⟩:ByteArray).size)=false by rw [Gl];simp;omega]
 clear hw
 go_wp2_with fail
 refine(pG _ _).mono ?_
 rintro e w7 ⟨rfl,hw⟩
 rw [hw]
 clear hw d1 x2 x3
 go_upto_region 18 with fail
 have hne:=gI w3
 have hgl:=HX3.out.lt
 have xs:=fun(x:dS (jc w3))=>HX3.out.below x.h
 simp only [List.set_cons_succ,List.set_cons_zero] at xs
 have z0:=fun x=>(xs x).cell 0
 have z1:=fun x=>(xs x).cell 1
 have z2:=fun x=>(xs x).cell 2
 have z3:=fun x=>(xs x).cell 3
 have z4:=fun x=>(xs x).cell 4
 have z5:=fun x=>(xs x).cell 5
 have z6:=fun x=>(xs x).cell 6
 have z7:=fun x=>(xs x).cell 7
 have z8:=fun x=>(xs x).cell 8
 simp only [fQ,fP] at z0 z1 z2 z3 z4 z5 z6 z7 z8
 clear xs
 refine oP (fun _=>undef) 4 (by kernel_rfl) (by kernel_rfl) ?_
 simp only [mD,mr,l9,lZ]
 repeat (first
  | (refine aN (by rfl) (by rfl) (fun K hK=>?_);go_big_quiet_step (fail);refine az ?_;refine hK.out _ ?_;clear hK K)
  | (refine aK (by rfl) ?_;simp only [Act.put,dL,dK,dJ]))
 refine eH ?_
 intro w8 h8
 clear z0 z1 z2 z3 z4 z5 z6 z7 z8 hne
 go_wp2_with fail
 have h8':Below w.heap.size w w8:=HB3.out.trans (h8.mono HB3.out.size)
 refine(HA.out _ h8').mono ?_
 rintro e w9 ⟨sv',fv',rfl,hT9,hC9,hsv,hfv⟩
 have H9:=ae hT9
 have HC:=ae hC9
 have HS:=ae hsv
 clear hT9 hC9 hsv
 go_wp2_with fail
 go_ret2
 refine⟨_,sv',fv',_,0,HM.out,rfl,H9.out,(dU.of_below h8').trans HC.out (fun _ _ h=>h),?_,hfv⟩
 rcases HS.out with e | ⟨k,e,hk⟩
 ·exact .inl e
 ·exact .inr ⟨k,e,aQ h8'.size hk⟩
theorem Va {B R:Nat}{S:Tr}{sv fv:Value}{w:World}(h:fZ B R S sv fv w)(hT:Laid w)(hfr:∀i∈S.free,S.slots[i]? = some none)(hfl:S.free.length≤1000000)(hl:S.slots.length < 20000)(name data:List UInt8)(hd:data.length≤1000)(v:Value)(al:List jR) :
  Calls Tryz.prog 39 #[.pointer (some ⟨R,0,none⟩),(.int .i64 4),.string ⟨name.toArray⟩,.string ⟨data.toArray⟩,v] w (sW B R S sv fv w 4 name data al):=by
 have HRp:=ae (fun wx (hb:Below w.heap.size w wx)=>nT data wx (by omega) (hT.below hb))
 have HM:=ae (uX.tx (W:=w.heap.size) (S:=S) (name:=name) (data:=data) (al:=al) (kind:=4) (by decide))
 have hfx:=mO data
 have HTt:=ae h
 have hlv:S.live≤S.slots.length:=gU _ _
 have hlt:=h.blk.lt
 have HA:=ae (fun w9 (hb:Below w.heap.size w w9)=>add_any (h.below hb) hfr hfl (by omega) (BQ 4 [] (.slice none 0 0) [] (fix data)) ⟨none,0,rfl,.inl rfl⟩)
 clear h hT hfr hfl
 go_enter Tryz.func39,Tryz.ntmps39
 go_wp2_with fail
 have hx0:=dD.new w (jd (BQ 4 [] (.slice none 0 0) [] [])) 62
 have hb0:=(ak w.heap.size w).alloc (au _) (.cells (jd (BQ 4 [] (.slice none 0 0) [] [])).toArray 62)
 refine(HRp.out _ hb0).mono ?_
 rintro e w2 ⟨rfl,hb2⟩
 have hb02:=aV hb0 hb2
 have hx2:=dD.below hx0 hb2
 simp only [jd,BQ,dA] at hx2
 have c2:=hx2.cell 2
 have c3:=hx2.cell 3
 simp only [fQ,fP] at c2 c3
 have f3:=hx2.free 3
 have HX3:=ae (hx2.set 3 (.string ⟨(fix data).toArray⟩))
 have HB3:=ae (hb02.setCell (p:=⟨w.heap.size,3,none⟩) (au _) (.string ⟨(fix data).toArray⟩))
 clear hb0 hb2 hb02 hx0 hx2
 go_upto_region 16 with fail
 clear c2 c3 f3
 generalize w2.setCell ⟨w.heap.size,3,none⟩ (.string ⟨(fix data).toArray⟩)=w3 at *
 have hT3:=HTt.out.below HB3.out
 have HL:=ae (len_any hT3)
 have x2:=HX3.out.cell 2
 have x3:=HX3.out.cell 3
 simp only [List.set_cons_succ,List.set_cons_zero,fQ,fP] at x2 x3
 have zR:=hT3.blk.free
 clear hT3
 have d1:decide ((20000:Int)≤(S.live:Int))=false:=by simp;omega
 go_wp2_with fail
 refine HL.out.mono ?_
 rintro e w5 ⟨rfl,hw⟩
 rw [hw]
 clear hw
 go_wp2_with fail
 refine(lW ⟨(fix data).toArray⟩ (by rw [Gl];omega) _).mono ?_
 rintro e w6 ⟨rfl,hw⟩
 rw [hw,show decide (1048576 < (⟨(fix data).toArray⟩:ByteArray).size)=false by rw [Gl];simp;omega]
 clear hw
 go_wp2_with fail
 refine(pG _ _).mono ?_
 rintro e w7 ⟨rfl,hw⟩
 rw [hw]
 clear hw d1 x2 x3
 go_upto_region 18 with fail
 have hne:=gI w3
 have hgl:=HX3.out.lt
 have xs:=fun(x:dS (jc w3))=>HX3.out.below x.h
 simp only [List.set_cons_succ,List.set_cons_zero] at xs
 have z0:=fun x=>(xs x).cell 0
 have z1:=fun x=>(xs x).cell 1
 have z2:=fun x=>(xs x).cell 2
 have z3:=fun x=>(xs x).cell 3
 have z4:=fun x=>(xs x).cell 4
 have z5:=fun x=>(xs x).cell 5
 have z6:=fun x=>(xs x).cell 6
 have z7:=fun x=>(xs x).cell 7
 have z8:=fun x=>(xs x).cell 8
 simp only [fQ,fP] at z0 z1 z2 z3 z4 z5 z6 z7 z8
 clear xs
 refine oP (fun _=>undef) 4 (by kernel_rfl) (by kernel_rfl) ?_
 simp only [mD,mr,l9,lZ]
 repeat (first
  | (refine aN (by rfl) (by rfl) (fun K hK=>?_);go_big_quiet_step (fail);refine az ?_;refine hK.out _ ?_;clear hK K)
  | (refine aK (by rfl) ?_;simp only [Act.put,dL,dK,dJ]))
 refine eH ?_
 intro w8 h8
 clear z0 z1 z2 z3 z4 z5 z6 z7 z8 hne
 go_wp2_with fail
 have h8':Below w.heap.size w w8:=HB3.out.trans (h8.mono HB3.out.size)
 refine(HA.out _ h8').mono ?_
 rintro e w9 ⟨sv',fv',rfl,hT9,hC9,hsv,hfv⟩
 have H9:=ae hT9
 have HC:=ae hC9
 have HS:=ae hsv
 clear hT9 hC9 hsv
 go_wp2_with fail
 go_ret2
 refine⟨_,sv',fv',_,0,HM.out,rfl,H9.out,(dU.of_below h8').trans HC.out (fun _ _ h=>h),?_,hfv⟩
 rcases HS.out with e | ⟨k,e,hk⟩
 ·exact .inl e
 ·exact .inr ⟨k,e,aQ h8'.size hk⟩
theorem V9:ET Tryz.prog 60 91 2 32:=ET.mk' (z:=.agg #[.string ⟨#[]⟩,.string ⟨#[]⟩]) Tryz.underlying60 (by kernel_rfl) rfl (by omega)
def tC (name:List UInt8)(av:Value):List Value:=[.int .i64 2,.string ⟨name.toArray⟩,av,.string ⟨#[]⟩,.int .i64 0,.int .i64 0,.int .i64 0,.int .i64 0,.int .i64 0]
def Wx (w:World)(r:Nat)(name:List UInt8)(al:List jR)(iv:Value)(wr:World):Prop :=
 ∃(i:Nat) (sa:Option Addr) (sl' sc:Nat),i≤al.length∧sl'=i∧iv=.int .i64 (i:Int)∧dD wr r (tC name (.slice sa sl' sc)) 62∧wr.ownsRow w.heap.size 91 2 (.slice sa sl' sc) sl' (cu ((al.take i).map fun a=>(a.1,fix a.2)))∧Below w.heap.size w wr
theorem Uk {B R:Nat}{S:Tr}{sv fv:Value}{w:World}(h:fZ B R S sv fv w)(hT:Laid w)(hfr:∀i∈S.free,S.slots[i]? = some none)(hfl:S.free.length≤1000000)(hl:S.slots.length < 20000)(name data:List UInt8)(hn:name.length≤1000)(v:Value)(al:List jR)(hv:Own w 91 2 v al.length (cu al))(hal:al.length≤100)(has:∀a∈al,a.1.length≤1000∧a.2.length≤1000) :
  Calls Tryz.prog 39 #[.pointer (some ⟨R,0,none⟩),.int .i64 2,.string ⟨name.toArray⟩,.string ⟨data.toArray⟩,v] w (sW B R S sv fv w 2 name data al):=by
 have HRp:=ae (fun(a:jR) (ha:a∈al) wx (hb:Below w.heap.size w wx)=>nT a.2 wx (by have:=(has a ha).2;omega) (hT.below hb))
 have HEl:=ae (fun wx (hb:Below w.heap.size w wx)=>xN name (by omega) wx (hT.below hb))
 have HAt:=ae (fun wx (hb:Below w.heap.size w wx)=>OJ al hal has v wx (hT.below hb) (bH hv hb))
 have HLn:=ae (show ∀a∈(al.map fun a=>(a.1,fix a.2)),a.2.length≤1048576 from fun a ha=>by
  obtain⟨b,hb,rfl⟩:=bC.1 ha
  have:=(has b hb).2
  have:=mO b.2
  show(fix b.2).length≤_
  omega)
 have HTt:=ae h
 have hlv:S.live≤S.slots.length:=gU _ _
 have hlt:=h.blk.lt
 have hbs:B≤w.heap.size:=by have:=h.base;omega
 have HA:=ae (fun w9 (hb:Below w.heap.size w w9) (n:Nd) (hn:jA B w9 n.av n.attrs)=>add_any (h.below hb) hfr hfl (by omega) n hn)
 have HMa:=ae (fun(c:(uB name && jL al)=false)=>uX.arg (W:=w.heap.size) (S:=S) (data:=data) (rfl:(2:Int)=2) c)
 have HMm:=ae (fun(c:(uB name && jL al)=true) (h2:64 < al.length)=>uX.many (W:=w.heap.size) (S:=S) (data:=data) (rfl:(2:Int)=2) c h2)
 have HMe:=ae (fun(av:Value) (c:(uB name && jL al)=true) (h2:al.length≤64) (hf:∀k,av.ownBlock=some k→w.heap.size≤k)=>uX.el (S:=S) (data:=data) av (rfl:(2:Int)=2) c h2 hf)
 obtain⟨va0,vc0,rfl⟩:=aW hv
 have HVc:=ae (fun(j:Nat) (y:jR) (hy:al[j]? = some y) wx (hb:Below w.heap.size w wx)=>(show ∃ga,va0=some ⟨ga,0,none⟩∧ga < w.heap.size∧wx.cell? ⟨ga,j*2,none⟩=some (.string ⟨y.1.toArray⟩)∧wx.cell? ⟨ga,j*2+1,none⟩=some (.string ⟨y.2.toArray⟩) from by
  have hl:=(ai.1 hy).1
  obtain⟨ga,hga⟩:∃g,va0=some ⟨g,0,none⟩:=by
   rcases hv.2 with ⟨e,e2⟩ | ⟨g,cap,cur,e,_⟩
   ·omega
   ·simp only [bD] at e;exact⟨g,e.1⟩
  subst hga
  have ho:=bH hv hb
  have h1:=iM ho (2*j) _ (kz al j y hy).1
  have h2:=iM ho (2*j+1) _ (kz al j y hy).2
  rw [aP,aJ] at h1 h2
  exact⟨ga,rfl,jy hv rfl,by rw [uT];exact h1,by rw [uT j];exact h2⟩))
 clear h hT hfr hfl hv has
 go_enter Tryz.func39,Tryz.ntmps39
 go_wp2_with fail
 have k1:=dD.new w (tC [] (.slice none 0 0)) 62
 have hb1:=(ak w.heap.size w).alloc (au _) (.cells (tC [] (.slice none 0 0)).toArray 62)
 refine(HEl.out _ hb1).mono ?_
 rintro e w2 ⟨rfl,hb2⟩
 have HB2:=ae (aV hb1 hb2)
 have HK2:=ae (dD.below k1 hb2)
 clear k1 hb1 hb2
 cases hel:uB name
 ·go_wp2_with fail
  go_ret2
  exact sW.same HTt.out HB2.out (HMa.out (by rw [hel];rfl))
 have HEx:=ae hel
 clear hel HEl
 go_wp2_with fail
 refine(HAt.out _ HB2.out).mono ?_
 rintro e w3 ⟨rfl,hb3⟩
 have HB3:=ae (aV HB2.out hb3)
 have HK3:=ae (HK2.out.below hb3)
 clear hb3 HB2 HK2
 cases hnm:jL al
 ·go_wp2_with fail
  go_ret2
  exact sW.same HTt.out HB3.out (HMa.out (by rw [hnm,Xv]))
 have HYes:=ae (show(uB name && jL al)=true by rw [HEx.out,hnm];rfl)
 clear hnm HAt HMa
 have c1:=HK3.out.cell 1
 have f1:=HK3.out.free 1
 simp only [tC,fQ,fP] at c1
 have HK4:=ae (show dD (w3.setCell ⟨w.heap.size,1,none⟩ (.string ⟨name.toArray⟩)) w.heap.size (tC name (.slice none 0 0)) 62 from HK3.out.set 1 (.string ⟨name.toArray⟩))
 have HB4:=ae (HB3.out.setCell (p:=⟨w.heap.size,1,none⟩) (au _) (.string ⟨name.toArray⟩))
 go_upto_region 8 with fail
 clear c1 f1 HK3 HB3
 generalize w3.setCell ⟨w.heap.size,1,none⟩ (.string ⟨name.toArray⟩)=w4 at *
 go_wp2_with fail
 go_loopw [32] (fun iv wr=>Wx w w.heap.size name al iv wr) (fun iv _=>al.length - iW iv)
 case atStart=>exact⟨0,none,0,0,by omega,rfl,rfl,HK4.out,aG _ _ _ _,HB4.out⟩
 case round =>
  obtain⟨i,sa,sl',sc,hi,hsl,rfl,hkr,hown,hbr⟩:=hrel
  have HKr:=ae hkr
  have HOr:=ae hown
  have HBr:=ae hbr
  have HSl:=ae hsl
  have hsl2:sl'≤100:=by omega
  clear hkr hown hbr hsl HB4 HK4
  by_cases hil:i < al.length
  ·obtain⟨y,hy⟩:∃y,al[i]? = some y:=⟨_,ay hil⟩
   have hym:=ah hy
   obtain⟨ga,rfl,hga,cn,cv⟩:=HVc.out i y hy _ HBr.out
   have HY:=ae hy
   have HYm:=ae hym
   have hil2:(i:Int) < (al.length:Int):=by omega
   clear hy hym
   have hW1:Below wr.heap.size wr (wr.alloc (.cells #[.string ⟨y.1.toArray⟩,.string ⟨y.2.toArray⟩] 91)):=(ak _ _).alloc (au _) _
   have kb:=dD.new wr [.string ⟨y.1.toArray⟩,.string ⟨y.2.toArray⟩] 91
   have kr1:=HKr.out.below hW1
   have hsz:=HBr.out.size
   have ho1:=fH HOr.out hW1
   have hb1:=aV HBr.out hW1
   have hbr:w.heap.size≠wr.heap.size:=by have:=HKr.out.lt;omega
   go_upto_region 11 with fail
   generalize wr.alloc (.cells #[.string ⟨y.1.toArray⟩,.string ⟨y.2.toArray⟩] 91)=W1 at *
   have q2:=kr1.cell 2
   have qf:=kr1.free 2
   have b0:=kb.cell 0
   have b1:=kb.cell 1
   simp only [tC,fQ,fP] at q2 b0 b1
   have hrl:=kr1.lt
   have hbl:=kb.lt
   have HKb:=ae kb
   have HK1:=ae kr1
   have HO1:=ae ho1
   have HB1:=ae hb1
   clear kb kr1 ho1 hb1 hW1 cn cv HKr HOr HBr
   have hne:∀b,(Value.slice sa sl' sc).ownBlock=some b→b≠w.heap.size:=fun b hb e=>by
    obtain⟨cur,hcur⟩:=dF (show Own W1 _ _ _ _ _ from iD HO1.out (aZ _)) hb
    subst e
    exact dw hcur HK1.out (by decide) rfl
   go_region_law (first
    | (go_simp;go_at_call 63;refine(HRp.out y HYm.out _ HB1.out.drew).mono ?_;rintro e w6 ⟨rfl,hb6⟩;
        have hB6:Below W1.heap.size W1 w6:=((ak _ W1).drew).trans (hb6.mono (au _));
        have q26:w6.cell? ⟨w.heap.size,2,none⟩=some (.slice sa sl' sc):=(HK1.out.below hB6).cell 2;have qf6:w6.frozen? ⟨w.heap.size,2,none⟩=false:=(HK1.out.below hB6).free 2;
        have b06:w6.cell? ⟨wr.heap.size,0,none⟩=some (.string ⟨y.1.toArray⟩):=(HKb.out.below hB6).cell 0;have b16:w6.cell? ⟨wr.heap.size,1,none⟩=some (.string ⟨y.2.toArray⟩):=(HKb.out.below hB6).cell 1;
        have hrl6:=(HK1.out.below hB6).lt;have hbl6:=(HKb.out.below hB6).lt;have HB6:=ae hB6;clear hb6 hB6)
    | (refine jO V9 (fH HO1.out (HB6.out.alloc HB6.out.size _)) (by have:=HB1.out.size;have:=HB6.out.size;simp;omega) (jg (n:=1) (size:=2) (dD.new w6 [.string ⟨y.1.toArray⟩,.string ⟨(fix y.2).toArray⟩] 91) rfl (by omega)) (yF _ _) (by omega) (by omega) (by rfl) _ _ (by rfl) (by rfl) (by rfl) ?_;intro v' w7 ho hgr hvb;
        obtain⟨va,vc,rfl⟩:=bP ho;have kr7:=((HK1.out.below HB6.out).alloc (.cells #[.string ⟨y.1.toArray⟩,.string ⟨(fix y.2).toArray⟩] 91)).kept (hgr.block w.heap.size (by have:=hrl6;simp;omega) (fun e=>hne _ e.symm rfl));have e2:w7.cell? ⟨w.heap.size,2,none⟩=some (.slice sa sl' sc):=kr7.cell 2;have ef:w7.frozen? ⟨w.heap.size,2,none⟩=false:=kr7.free 2;
        have HK7:=ae kr7;have HO7:=ae ho;have HG7:=ae hgr;clear ho hgr hvb kr7))
   all_goals
    have hb6w:Below w.heap.size w w6:=HB1.out.trans (HB6.out.mono HB1.out.size)
    have hb7:Below w.heap.size w w7:=(hb6w.alloc hb6w.size _).grown HG7.out (by have:=hb6w.size;simp;omega) (fun b hb=>(HO1.out.lt b hb).1)
    have hk8:=HK7.out.set 2 (.slice va (sl'+1) vc)
    have ho8:=gW HO7.out (w':=w7.setCell ⟨w.heap.size,2,none⟩ (.slice va (sl'+1) vc)) (fun b hb=>aF _ _ _ _ (fun e=>by
     obtain⟨cur,hcur⟩:=dF (show Own w7 _ _ _ _ _ from iD HO7.out (aZ _)) hb
     rw [show b=w.heap.size from e] at hcur
     exact dw hcur HK7.out (by decide) rfl))
    have hb8:=hb7.setCell (p:=⟨w.heap.size,2,none⟩) (au w.heap.size) (.slice va (sl'+1) vc)
    have HK8:=ae hk8
    have HO8:=ae ho8
    have HB8:=ae hb8
    have HM:=ae (Gs al i y HY.out (fun a=>(a.1,fix a.2)))
    clear hb6w hb7 hk8 ho8 hb8 e2 ef
    go_wp2_with fail
    exact⟨⟨i+1,va,sl'+1,vc,by omega,by have:=HSl.out;omega,by first | rfl | simp,HK8.out,by rw [HM.out];exact HO8.out,HB8.out⟩,by simp only [iW];omega⟩
  ·obtain rfl:i=al.length:=by omega
   rw [dE] at HOr
   have hsl3:=HSl.out
   subst hsl3
   have hat:jA B wr (.slice sa al.length sc) (al.map fun a=>(a.1,fix a.2)):=lY (by rw [bM];exact HOr.out) hbs
   have HCn:=ae (Ii hat (by rw [bM];omega) HLn.out)
   have HAa:=ae (fun w9 (hb:Below wr.heap.size wr w9)=>HA.out w9 (aV HBr.out hb) (BQ 2 name (.slice sa al.length sc) (al.map fun a=>(a.1,fix a.2)) []) (lY (B':=w.heap.size) (by simp only [BQ];rw [bM];exact fH HOr.out hb) hbs))
   have HMo:=ae (fun h2=>HMe.out (.slice sa al.length sc) HYes.out h2 (fun k hk=>(HOr.out.lt k hk).1))
   clear hat
   have hT3:=HTt.out.below HBr.out
   have HL:=ae (len_any hT3)
   have x2:=HKr.out.cell 2
   have x3:=HKr.out.cell 3
   simp only [tC,fQ,fP] at x2 x3
   have zR:=hT3.blk.free
   clear hT3
   have d1:decide ((20000:Int)≤(S.live:Int))=false:=by simp;omega
   go_wp2_with fail
   refine HL.out.mono ?_
   rintro e w5 ⟨rfl,hw⟩
   rw [hw]
   clear hw
   by_cases h64:64 < al.length
   ·have HMx:=ae (HMm.out HYes.out h64)
    have d2:decide ((64:Int) < (al.length:Int))=true:=by simp;omega
    clear HMm HMe HMo h64
    go_wp2_with fail
    go_ret2
    exact sW.same HTt.out HBr.out HMx.out
   have HMx:=ae (HMo.out (by omega))
   have d2:decide ((64:Int) < (al.length:Int))=false:=by simp;omega
   clear HMm HMe HMo h64
   go_wp2_with fail
   refine(lW ⟨#[]⟩ (by show 0≤_;omega) _).mono ?_
   rintro e w6 ⟨rfl,hw⟩
   rw [hw,show decide (1048576 < (⟨#[]⟩:ByteArray).size)=false from rfl]
   clear hw
   go_wp2_with fail
   refine HCn.out.mono ?_
   rintro e w7 ⟨rfl,hw7⟩
   have HK7:=ae (HKr.out.below hw7)
   have HW7:=ae hw7
   clear d1 d2 x2 x3 hw7 HCn
   go_upto_region 18 with fail
   have hne:=gI w7
   have hgl:=HK7.out.lt
   have xs:=fun(x:dS (jc w7))=>HK7.out.below x.h
   simp only [tC] at xs
   have z0:=fun x=>(xs x).cell 0
   have z1:=fun x=>(xs x).cell 1
   have z2:=fun x=>(xs x).cell 2
   have z3:=fun x=>(xs x).cell 3
   have z4:=fun x=>(xs x).cell 4
   have z5:=fun x=>(xs x).cell 5
   have z6:=fun x=>(xs x).cell 6
   have z7:=fun x=>(xs x).cell 7
   have z8:=fun x=>(xs x).cell 8
   simp only [fQ,fP] at z0 z1 z2 z3 z4 z5 z6 z7 z8
   clear xs
   refine oP (fun _=>undef) 4 (by kernel_rfl) (by kernel_rfl) ?_
   simp only [mD,mr,l9,lZ]
   repeat (first
    | (refine aN (by rfl) (by rfl) (fun K hK=>?_);go_big_quiet_step (fail);refine az ?_;refine hK.out _ ?_;clear hK K)
    | (refine aK (by rfl) ?_;simp only [Act.put,dL,dK,dJ]))
   refine eH ?_
   intro w8 h8
   clear z0 z1 z2 z3 z4 z5 z6 z7 z8 hne
   go_wp2_with fail
   have h8':Below wr.heap.size wr w8:=aV HW7.out h8
   refine(HAa.out _ h8').mono ?_
   rintro e w9 ⟨sv',fv',rfl,hT9,hC9,hsv,hfv⟩
   have H9:=ae hT9
   have HC:=ae hC9
   have HS:=ae hsv
   have HV9:=ae hfv
   have H8:=ae (aV HBr.out h8')
   clear hT9 hC9 hsv hfv h8' h8
   go_wp2_with fail
   go_ret2
   refine⟨_,sv',fv',_,0,HMx.out,rfl,H9.out,(dU.of_below H8.out).trans HC.out (fun _ _ h=>h),?_,HV9.out⟩
   rcases HS.out with e | ⟨k,e,hk⟩
   ·exact .inl e
   ·exact .inr ⟨k,e,aQ H8.out.size hk⟩
theorem wW (l:List UInt8):Lib.validD (fix l)=true:=by
 rw [pY]
 exact(vH _).2 (FD l)
theorem G8 {al:List jR}(h:jL al=true):(∀a∈al,headB a.1=true)∧(al.map (·.1)).Nodup:=by
 unfold jL at h
 rw [aH,dX] at h
 exact⟨h.1,tq h.2⟩
theorem RG (al:List jR):(al.map fun a=>(a.1,fix a.2))=al.map fun a=>(a.1,ik a.2):=fM fun a _=>by rw [pY]
theorem P5 (c:Nat){name:List UInt8}{al:List jR}(av:Value)(h:(uB name && jL al)=true)(hn:name.length≤200)(hal:al.length≤64)(ha:∀a∈al,a.1.length≤200∧a.2.length≤50):zV c (BQ 2 name av (al.map fun a=>(a.1,fix a.2)) []):=by
 rw [aH] at h
 obtain⟨h1,h2⟩:=G8 h.2
 refine⟨.inr (.inl rfl),fun _=>⟨rfl,h.1⟩,fun e=>(by rcases e with e | e <;> cases e),fun e=>(by cases e),fun a hm=>?_,?_,(by simpa [BQ] using hal),(by simp [BQ]),hn⟩
 ·obtain⟨b,hb,rfl⟩:=bC.1 hm
  have:=mO b.2
  have:=ha b hb
  exact⟨h1 b hb,wW _,this.1,by show(fix b.2).length≤200;omega⟩
 ·have e:((BQ 2 name av (al.map fun a=>(a.1,fix a.2)) []).attrs.map (·.1))=al.map (·.1):=by simp [BQ,nK,Function.comp_def]
  rw [e]
  exact h2
theorem PZ (c:Nat){kind:Int}{data:List UInt8}(h:kind=3∨kind=4)(hd:data.length≤50):zV c (BQ kind [] (.slice none 0 0) [] (fix data)):=by
 have:=mO data
 refine⟨.inr (.inr h),fun e=>?_,fun _=>⟨rfl,rfl,wW _⟩,fun e=>?_,fun a hm=>(by cases hm),uK,(by simp [BQ]),(by show(fix data).length≤200*(c+1);omega),(by simp [BQ])⟩
 ·have e:kind=2:=e;omega
 ·have e:kind=1:=e;omega
theorem Tw.make {ex:Prop}{E:Nat→Prop}{c W0:Nat}{S S':Tr}{K:Nat→List Nat}{d:Nat→Nat}{M M':List MN}{σ : Nat→Nat}(W:Tw ex E c S K M σ)(T:iP c S K d){kind h en en':Int}{name data:List UInt8}{al:List jR}
  (hm:Cf M kind name data al M' en)(ht:uX W0 S kind name data al S' h en')(hk:kind=2∨kind=3∨kind=4)(hn:name.length≤200)(hd:data.length≤50)(hal:al.length≤2)(ha:∀a∈al,a.1.length≤200∧a.2.length≤50)
  (hE:¬E S.mV)(hf:M.length < 10000)(hl:S.slots.length < 1000000) :
  en'=en∧((en=1∧S'=S∧M'=M∧h=0)∨(en=0∧h=S.hd S.mV∧M'.length=M.length+1∧iP c S' K (EW d S.mV)∧Tw ex E c S' K M' (BO M σ S.mV))):=by
 cases ht with
 | kind h2 h3 h4=>rcases hk with e | e | e <;> contradiction
 | arg e hb =>
  subst e
  cases hm with
  | arg _ _=>exact⟨rfl,.inl ⟨rfl,rfl,rfl,rfl⟩⟩
  | el _ hb2=>rw [hb] at hb2;cases hb2
  | tx e=>exact absurd rfl e
 | many e hb h2=>omega
 | el av e hb h2 hfr =>
  subst e
  cases hm with
  | arg _ hb2=>rw [hb] at hb2;cases hb2
  | el _ _ =>
   have k:=oL T.fr T.rZ (BQ 2 name av (al.map fun a=>(a.1,fix a.2)) [])
   refine⟨rfl,.inr ⟨rfl,rfl,by simp,T.added k rfl rfl rfl rfl rfl hl (P5 c av hb hn h2 ha) (by show(2:Int)≠1;omega),?_⟩⟩
   exact W.added T.lk k hE (m:=kD 2 name (al.map fun(a:jR)=>((a.1,ik a.2):jR)) []) rfl rfl rfl (RG al) rfl rfl rfl (by simp [kD];omega) hf
  | tx e=>exact absurd rfl e
 | tx e =>
  cases hm with
  | arg e2 _=>omega
  | el e2 _=>omega
  | tx e2 =>
   have k:=oL T.fr T.rZ (BQ kind [] (.slice none 0 0) [] (fix data))
   refine⟨rfl,.inr ⟨rfl,rfl,by simp,T.added k rfl rfl rfl rfl rfl hl (PZ c e hd) (by show kind≠1;omega),?_⟩⟩
   exact W.added T.lk k hE (m:=kD kind [] [] (ik data)) rfl rfl (pY data) rfl rfl rfl rfl (by simp [kD]) hf
inductive Iy (W:Nat) (S:Tr) (i:Nat) (n:Nd) (name:List UInt8):Tr→Value→Int→List (List Value)→Prop
 | kind (h:n.kind≠2):Iy W S i n name S (.slice none 0 0) 10 []
 | no (hk:n.kind=2) (h:mJ n.attrs name=-1):Iy W S i n name S (.slice none 0 0) 0 []
 | cut (v av:Value) (k:Nat) (y:jR) (hk:n.kind=2) (h1:mJ n.attrs name=(k:Int)) (h2:n.attrs[k]? = some y) (hfr:∀k,av.ownBlock=some k→W≤k) :
   Iy W S i n name (S.put i { n with av:=av,attrs:=n.attrs.eraseIdx k }) v 0 [recC 3 (S.hd i) 0 0 0 0 name y.2 true 0 0]
theorem LM {B R g cap:Nat}{S:Tr}{fv:Value}{w:World}{K d}(h:fZ B R S (.slice (some ⟨g,0,none⟩) S.slots.length cap) fv w)(hL:Lk S K d)(i:Nat)(n:Nd)(hi:S.at i=some n)(hk:n.kind=2)(hl:n.attrs.length≤64)
  (name:List UInt8) :
  Calls Tryz.prog 17 #[.pointer (some ⟨R,0,none⟩),.int .i64 (S.hd i),dA name] w fun e w'=>∃S' v er l,Iy w.heap.size S i n name S' v er l∧e=.returned (.tuple #[v,.int .i64 er]) ∧
   sG w' w.heap.size v l∧fZ B R S' (.slice (some ⟨g,0,none⟩) S'.slots.length cap) fv w'∧dU (fun k=>k=g) w w':=by
 have HE:=ae (Ei h hL i n hi hk)
 have HM:=ae (fun wx (hb:Below w.heap.size w wx)=>FQ (h.below hb) i n hi name (by omega))
 have HTx:=ae h
 have Hi:=ae hi
 clear h
 unfold dA at *
 have H2:=ae (fun wx (hb:Below w.heap.size w wx)=>bK (HTx.out.below hb) Hi.out 2 (by omega))
 simp only [jd,fQ,fP] at H2
 obtain⟨va,vc,hva,hvx⟩:=HTx.out.attrs i n (dN hi)
 rw [hva] at H2
 have HVx:=ae hvx
 clear hi hL hvx
 have hcases:=ug n.attrs name
 have hnr:∃r,r=mJ n.attrs name:=⟨_,rfl⟩
 obtain⟨r,hnr⟩:=hnr
 rw [← hnr] at hcases HM
 have HNr:=ae hnr
 clear hnr
 go_enter Tryz.func17,Tryz.ntmps17
 go_wp2_with fail
 refine HE.out.mono ?_
 rintro e w1 ⟨rfl,hb1⟩
 go_wp2_with fail
 refine(HM.out _ hb1).mono ?_
 rintro e w4 ⟨rfl,hb4⟩
 have hB4:=aV hb1 hb4
 clear HE HM hb1 hb4
 have c2:=H2.out _ hB4
 rcases hcases with rfl | ⟨k,y,rfl,hy⟩
 ·go_wp2_with fail
  go_ret2
  exact⟨S,_,0,[],(.no hk HNr.out.symm),rfl,aG _ _ _ _,HTx.out.below hB4,dU.of_below hB4⟩
 ·have d1:decide ((k:Int) < 0)=false:=by simp
  have hkl:=(ai.1 hy).1
  obtain⟨ga,hga⟩:∃ga,va=some ⟨ga,0,none⟩:=by
   rcases HVx.out with e | ⟨ga,cur,e,_⟩
   ·rw [e] at hkl;simp at hkl
   ·exact⟨ga,e⟩
  subst hga
  have q1:w4.cell? ⟨ga,k*2+1,none⟩=some (.string ⟨y.2.toArray⟩):=by
   have h2:=HTx.out.below hB4
   have h3:=h2.attrs i n (dN Hi.out)
   rw [hva] at h3
   have:=Es h3 (2*k+1) _ (kz n.attrs k y hy).2
   rw [aP,aJ] at this
   rw [show k*2+1=2*k+1 by omega]
   exact this
  go_upto_region 8 with fail
  clear q1
  have k6:dD (w4.alloc (.cells #[.int .i64 3,.int .i64 (S.hd i),.int .i64 0,.int .i64 0,.int .i64 0,.int .i64 0,.string ⟨name.toArray⟩,.string ⟨y.2.toArray⟩,.bool true,.int .i64 0,.int .i64 0] 41)) w4.heap.size [.int .i64 3,.int .i64 (S.hd i),.int .i64 0,.int .i64 0,.int .i64 0,.int .i64 0,.string ⟨name.toArray⟩,.string ⟨y.2.toArray⟩,.bool true,.int .i64 0,.int .i64 0] 41:=dD.new w4 _ _
  have hB6:Below w.heap.size w (w4.alloc (.cells #[.int .i64 3,.int .i64 (S.hd i),.int .i64 0,.int .i64 0,.int .i64 0,.int .i64 0,.string ⟨name.toArray⟩,.string ⟨y.2.toArray⟩,.bool true,.int .i64 0,.int .i64 0] 41)):=hB4.alloc hB4.size _
  have hr6:w.heap.size≤w4.heap.size:=hB4.size
  generalize hrb:w4.heap.size=rb at *
  generalize w4.alloc (.cells #[.int .i64 3,.int .i64 (S.hd i),.int .i64 0,.int .i64 0,.int .i64 0,.int .i64 0,.string ⟨name.toArray⟩,.string ⟨y.2.toArray⟩,.bool true,.int .i64 0,.int .i64 0] 41)=w6 at *
  have hT6:=HTx.out.below hB6
  have c6:=H2.out _ hB6
  have HCl:=ae (uI (hva ▸ hT6.attrs i n (dN Hi.out)) (by omega))
  have HT6:=ae hT6
  have HK6:=ae k6
  clear hT6 k6 c2
  go_wp2_with fail
  refine HCl.out.mono ?_
  rintro e w7 ⟨v1,rfl,hown7,hb7⟩
  obtain⟨g1,cap1,rfl⟩:∃g1 cap1,v1=.slice (some ⟨g1,0,none⟩) n.attrs.length cap1:=by
   rcases hown7.2 with ⟨_,e⟩ | ⟨g1,cap',cur,e,_⟩
   ·omega
   ·exact⟨g1,_,e⟩
  have HD:=ae (JD (rest:=[]) (LX hown7 hb7.size) k hkl (by omega))
  clear HCl c6 hown7
  go_wp2_with fail
  refine HD.out.mono ?_
  rintro e w8 ⟨rfl,hA8⟩
  have hb8:Below w6.heap.size w7 w8:=hA8.below
  have hb68:=hb7.trans hb8
  have hB8:=aV hB6 hb68
  have hT8:=HTx.out.below hB8
  have c8:=H2.out _ hB8
  have z8:=iI hT8 (i*10+1+2)
  have HO8:=ae (SN hA8)
  have HT8:=ae hT8
  have HK8:=ae (HK6.out.below hb68)
  clear hT8 HD hA8
  go_upto_region 9 with fail
  have hrow10:=gV HT8.out.slots (i*10+1+2) (.slice (some ⟨g1,0,none⟩) (n.attrs.length - 1) cap1)
  have hch10:dU (fun k=>k=g) w (w8.setCell ⟨g,i*10+1+2,none⟩ (.slice (some ⟨g1,0,none⟩) (n.attrs.length - 1) cap1)):=(dU.of_below (F:=fun k=>k=g) hB8).setCell ⟨g,i*10+1+2,none⟩ (fun _=>(rfl:g=g)) _
  have hg0:=(HTx.out.slots.lt g rfl).2
  have hg1:=(HO8.out.lt g1 rfl).1
  have hsz6:=hB6.size
  have hgg1:g1≠g:=by omega
  have hown10:=gW (w':=w8.setCell ⟨g,i*10+1+2,none⟩ (.slice (some ⟨g1,0,none⟩) (n.attrs.length - 1) cap1)) HO8.out (fun g' hg'=>aF _ _ _ _ (by cases hg';exact hgg1))
  have hfr:∀k',(Value.slice (some ⟨g1,0,none⟩) (n.attrs.length - 1) cap1).ownBlock=some k'→w.heap.size≤k':=fun k' hk'=>aQ hB6.size (HO8.out.lt k' hk').1
  have hk10:=HK8.out.setOther ⟨g,i*10+1+2,none⟩ (by show rb≠g;omega) (.slice (some ⟨g1,0,none⟩) (n.attrs.length - 1) cap1)
  have hs10:w6.heap.size≤(w8.setCell ⟨g,i*10+1+2,none⟩ (.slice (some ⟨g1,0,none⟩) (n.attrs.length - 1) cap1)).heap.size:=by simp [World.setCell];exact hb68.size
  have hle:(n.attrs.eraseIdx k).length=n.attrs.length - 1:=by rw [Xk,aC hkl]
  have HT10:=ae (HTx.out.PI Hi.out (.slice (some ⟨g1,0,none⟩) (n.attrs.length - 1) cap1) (n.attrs.eraseIdx k) hch10 hrow10 (lY (B:=B) (by rw [hle];exact hown10) (by have:=HTx.out.base;have:=HTx.out.blk.lt;omega)))
  have HCh10:=ae hch10
  clear hrow10 hch10 hown10 HT8 HO8 HK8 c8 z8
  generalize w8.setCell ⟨g,i*10+1+2,none⟩ (.slice (some ⟨g1,0,none⟩) (n.attrs.length - 1) cap1)=w10 at *
  have b0:=hk10.cell 0
  have b1:=hk10.cell 1
  have b2:=hk10.cell 2
  have b3:=hk10.cell 3
  have b4:=hk10.cell 4
  have b5:=hk10.cell 5
  have b6:=hk10.cell 6
  have b7:=hk10.cell 7
  have b8:=hk10.cell 8
  have b9:=hk10.cell 9
  have b10:=hk10.cell 10
  simp only [fQ,fP] at b0 b1 b2 b3 b4 b5 b6 b7 b8 b9 b10
  go_wp2_with fail
  go_ret2
  refine⟨_,_,0,_,(.cut _ (.slice (some ⟨g1,0,none⟩) (n.attrs.length - 1) cap1) k y hk HNr.out.symm hy hfr),rfl,?_,HT10.out.below ((ak _ w10).alloc (au _) _),HCh10.out.alloc _⟩
  exact DI w10 _ (aQ hB6.size hs10) rfl
theorem Ih {B R g cap:Nat}{S:Tr}{fv:Value}{w:World}{K d}(h:fZ B R S (.slice (some ⟨g,0,none⟩) S.slots.length cap) fv w)(hL:Lk S K d)(i:Nat)(n:Nd)(hi:S.at i=some n)(hl:n.attrs.length≤64)
  (name:List UInt8) :
  Calls Tryz.prog 17 #[.pointer (some ⟨R,0,none⟩),.int .i64 (S.hd i),dA name] w fun e w'=>∃S' v er l,Iy w.heap.size S i n name S' v er l∧e=.returned (.tuple #[v,.int .i64 er]) ∧
   sG w' w.heap.size v l∧fZ B R S' (.slice (some ⟨g,0,none⟩) S'.slots.length cap) fv w'∧dU (fun k=>k=g) w w':=by
 by_cases hk:n.kind=2
 ·exact LM h hL i n hi hk hl name
 ·refine(JC h hL i n hi hk _).mono ?_
  rintro e w1 ⟨rfl,hb⟩
  exact⟨S,_,10,[],.kind hk,rfl,aG _ _ _ _,h.below hb,dU.of_below hb⟩
end Go.Proofs.YtfelmdkeaacfeaaGreatDoor.W
end
