/- Texts joined: Make DeepL LaidW. -/
import Derived.Test.YtfelmdkeaacfeaaGreatDoorTB1
import Derived.Test.YtfelmdkeaacfeaaGreatDoorTB10
import Derived.Test.YtfelmdkeaacfeaaGreatDoorTB5
import Derived.Deep.CutBlock
import Derived.Test.YtfelmdkeaacfeaaGreatDoorTB42
import Derived.Test.YtfelmdkeaacfeaaGreatDoorTB9
import Derived.Test.YtfelmdkeaacfeaaGreatDoorCards
import Derived.Test.YtfelmdkeaacfeaaGreatDoorTie
import Derived.Shelf.Vars
import Derived.Lib.LaidU8T
import Derived.Shelf.Unicode.ValidAny
import Derived.Lib.LaidIn
import Derived.Deep.DeepHandedRow
import Derived.Deep.DeepWitnessRowRef
import Derived.SizedLaws
set_option maxRecDepth 100000
set_option maxHeartbeats 40000000
set_option linter.unusedVariables false
set_option linter.unusedSimpArgs false
section
namespace Go.Proofs.YtfelmdkeaacfeaaGreatDoor.W
open Go.RowKit
theorem make_one {B R:Nat}{S:Tr}{sv fv:Value}{w:World}(h:fZ B R S sv fv w)(hf:S.free=[])(hl:S.slots.length < 20000)(c:UInt8)(hc:NC c) :
  Calls Tryz.prog 39 #[.pointer (some ⟨R,0,none⟩),.int .i64 2,.string ⟨#[c]⟩,.string ⟨#[]⟩,.slice none 0 0] w fun e w'=>∃sv',e=.returned (.tuple #[.int .i64 (S.hd S.slots.length),.int .i64 0]) ∧
   fZ B R (S.snoc (vO 2 [c])) sv' fv w'∧dU (fun k=>k=R∨sv.ownBlock=some k) w w'∧(sv'.ownBlock=sv.ownBlock∨∃k,sv'.ownBlock=some k∧w.heap.size≤k):=by
 have HE:=ae (BX c hc)
 have HT:=ae h
 have hlv:S.live≤S.slots.length:=gU _ _
 have hlt:=h.blk.lt
 clear h hc
 go_enter Tryz.func39,Tryz.ntmps39
 go_wp2_with fail
 have hb0:=(ak w.heap.size w).alloc (au _) (.cells #[.int .i64 2,.string ⟨#[]⟩,.slice none 0 0,.string ⟨#[]⟩,.int .i64 0,.int .i64 0,.int .i64 0,.int .i64 0,.int .i64 0] 62)
 have hx0:=dD.new w [.int .i64 2,.string ⟨#[]⟩,.slice none 0 0,.string ⟨#[]⟩,.int .i64 0,.int .i64 0,.int .i64 0,.int .i64 0,.int .i64 0] 62
 have HB0:=ae hb0
 have HX0:=ae (show dD (w.alloc (.cells #[.int .i64 2,.string ⟨#[]⟩,.slice none 0 0,.string ⟨#[]⟩,.int .i64 0,.int .i64 0,.int .i64 0,.int .i64 0,.int .i64 0] 62)) _ _ _ from hx0)
 clear hb0 hx0
 generalize w.alloc (.cells #[.int .i64 2,.string ⟨#[]⟩,.slice none 0 0,.string ⟨#[]⟩,.int .i64 0,.int .i64 0,.int .i64 0,.int .i64 0,.int .i64 0] 62)=w1 at *
 refine(HE.out _).mono ?_
 rintro e w2 ⟨rfl,hb2⟩
 go_wp2_with fail
 refine(OI _).mono ?_
 rintro e w3 ⟨rfl,hb3⟩
 have hb13:=aV hb2 hb3
 have hx3:=HX0.out.below hb13
 have c1:=hx3.cell 1
 simp only [fQ,fP] at c1
 have f1:=hx3.free 1
 have HX3:=ae (hx3.set 1 (.string ⟨#[c]⟩))
 have hB3:=HB0.out.trans (hb13.mono HB0.out.size)
 have hB4:=hB3.setCell (p:=⟨w.heap.size,1,none⟩) (au _) (.string ⟨#[c]⟩)
 have HB4:=ae hB4
 clear hx3 hb2 hb3 hb13 hB3 hB4
 go_upto_region 8 with fail
 clear c1 f1
 generalize w3.setCell ⟨w.heap.size,1,none⟩ (.string ⟨#[c]⟩)=w4 at *
 go_wp2_with fail
 go_loopw [32] (fun iv wr=>iv=.int .i64 0∧wr=w4) (fun _ _=>0)
 case atStart=>exact⟨rfl,rfl⟩
 case round =>
  obtain⟨rfl,rfl⟩:=hrel
  have hT4:=HT.out.below HB4.out
  have HL:=ae (len_any hT4)
  have x2:=HX3.out.cell 2
  have x3:=HX3.out.cell 3
  simp only [List.set_cons_succ,List.set_cons_zero,fQ,fP] at x2 x3
  have HT4:=ae hT4
  clear hT4
  have d1:decide ((20000:Int)≤(S.live:Int))=false:=by simp;omega
  go_wp2_with fail
  refine HL.out.mono ?_
  rintro e w5 ⟨rfl,hw⟩
  rw [hw]
  clear hw
  go_wp2_with fail
  refine(lW ⟨#[]⟩ (by show 0≤_;omega) _).mono ?_
  rintro e w6 ⟨rfl,hw⟩
  rw [hw,show decide (1048576 < (⟨#[]⟩:ByteArray).size)=false from rfl]
  clear hw
  go_wp2_with fail
  refine(pG _ _).mono ?_
  rintro e w7 ⟨rfl,hw⟩
  rw [hw]
  clear hw d1 x2 x3
  go_upto_region 18 with fail
  have hne:=gI wr
  have hgl:=HX3.out.lt
  have xs:=fun(x:dS (jc wr))=>HX3.out.below x.h
  simp only [List.set_cons_succ,List.set_cons_zero] at xs
  have z0:=fun x=>(xs x).cell 0
  have z1:=fun x=>(xs x).cell 1
  have z2:=fun x=>(xs x).cell 2
  have z3:=fun x=>(xs x).cell 3
  have z4:=fun x=>(xs x).cell 4
  have z5:=fun x=>(xs x).cell 5
  have z6:=fun x=>(xs x).cell 6
  have z7:=fun x=>(xs x).cell 7
  have z8:=fun x=>(xs x).cell 8
  simp only [fQ,fP] at z0 z1 z2 z3 z4 z5 z6 z7 z8
  have HTX:=ae (fun w9 (hb:Below wr.heap.size wr w9)=>Iq (HT4.out.below hb) hf (by omega) (vO 2 [c]) ⟨none,0,rfl,.inl rfl⟩)
  clear xs
  refine oP (fun _=>undef) 4 (by kernel_rfl) (by kernel_rfl) ?_
  simp only [mD,mr,l9,lZ]
  repeat (first
   | (refine aN (by rfl) (by rfl) (fun K hK=>?_);go_big_quiet_step (fail);refine az ?_;refine hK.out _ ?_;clear hK K)
   | (refine aK (by rfl) ?_;simp only [Act.put,dL,dK,dJ]))
  refine eH ?_
  intro w8 h8
  clear z0 z1 z2 z3 z4 z5 z6 z7 z8 hne
  go_wp2_with fail
  refine(HTX.out _ h8).mono ?_
  rintro e w9 ⟨sv',rfl,hT9,hC9,hsv⟩
  have H9:=ae hT9
  have HC:=ae hC9
  have HS:=ae hsv
  clear hT9 hC9 hsv
  go_wp2_with fail
  go_ret2
  have h8':Below w.heap.size w w8:=HB4.out.trans (h8.mono HB4.out.size)
  refine⟨sv',rfl,H9.out,(dU.of_below h8').trans HC.out (fun _ _ h=>h),?_⟩
  rcases HS.out with e | ⟨k,e,hk⟩
  ·exact .inl e
  ·exact .inr ⟨k,e,aQ h8'.size hk⟩
theorem fZ.sl {B R:Nat}{S:Tr}{sv fv:Value}{w:World}(h:fZ B R S sv fv w)(hn:0 < S.slots.length):∃g cap,sv=.slice (some ⟨g,0,none⟩) S.slots.length cap:=fO h hn
theorem SH {B R:Nat}{S:Tr}{sv fv:Value}{w0 w w':World}(h:fZ B R S sv fv w)(hb:Below B w0 w)(k:dU (fun k=>k=R∨sv.ownBlock=some k) w w'):Below B w0 w' :=
 hb.trans (k.below (aQ h.base (Xf h.blk.lt)) (fun j hj=>by
  rcases hj with rfl | e
  ·exact h.base
  ·exact(h.slots.lt j e).1))
theorem QH {B R g cap:Nat}{S:Tr}{fv:Value}{w0 w w':World}(h:fZ B R S (.slice (some ⟨g,0,none⟩) S.slots.length cap) fv w)(hb:Below B w0 w)(k:dU (fun k=>k=g) w w'):Below B w0 w' :=
 hb.trans (k.below (aQ h.base (Xf h.blk.lt)) (fun j hj=>by subst hj;exact(h.slots.lt j rfl).1))
theorem Gn (w:World):Calls Tryz.prog 10 #[] w fun e w'=>e=.returned (.bool true)∧Below w.heap.size w w':=by
 go_enter Tryz.func10,Tryz.ntmps10
 go_wp2_with fail
 refine(IG 0 0 w).mono ?_
 rintro e w1 ⟨R,sv,rfl,hT1,hb1⟩
 have HM:=ae (make_one hT1 rfl (by simp [AA]) 112 MZ)
 have HB1:=ae hb1
 have HT1:=ae hT1
 clear hb1 hT1
 go_wp2_with fail
 refine HM.out.mono ?_
 rintro e w2 ⟨sv2,rfl,hT2,hC2,_⟩
 obtain⟨g,cap,rfl⟩:=hT2.sl (by rw [vF];omega)
 have hB2:=SH HT1.out HB1.out hC2
 have h0:=Pz 0 0
 obtain⟨a1,a2,a3,a4,a5,a6,a7⟩:=C1.made MZ h0 (by omega)
 have hlk:=C1.lk MZ h0 (by omega) (by omega)
 obtain⟨np,hp⟩:=aB.1 a2
 have HI:=ae (Ls hT2 a1.lk 0 1 np _ hp a7 a4 a5 (C1.may MZ h0 (by omega) hp a7) (by rw [a3,Qn a6];decide) hlk)
 have r5:=hT2.blk.cell 5
 simp only [fQ,fP] at r5
 have HT2:=ae hT2
 have HB2:=ae hB2
 clear hT2 hB2 hC2 h0 a1 a2 a3 a4 a5 a6 a7 hlk hp HM HT1
 go_wp2_with fail
 refine HI.out.mono ?_
 rintro e w3 ⟨S',v,hlk,rfl,hrc,hT3,hC3⟩
 have hB3:=QH HT2.out HB2.out hC3
 obtain⟨gr,cr,rfl,_⟩:=sK (iD hrc (aZ _)) (by simp)
 have k0:=hrc.cells (g:=gr) rfl 0 (.int .i64 1) rfl
 rw [show(⟨gr,0,none⟩:Addr).add 0=⟨gr,0,none⟩ by unfold Addr.add;split <;> simp_all] at k0
 have e2:(AA 0 0).hd (AA 0 0).slots.length=2:=by decide
 have HB3:=ae hB3
 simp only [e2,List.length_singleton,List.length_cons,List.length_nil]
 clear hrc hT3 hC3 hlk HI r5 HT2 e2 hB3
 go_wp2_with fail
 go_ret
 exact⟨rfl,HB3.out⟩
end Go.Proofs.YtfelmdkeaacfeaaGreatDoor.W
end
section
namespace Go.Proofs.YtfelmdkeaacfeaaGreatDoor.W
open Go.ChangeShapes Go.WideShapes Go.ChangeAt Go.RowKit Go.Joins Go.Shelf
def lst : List (String × DataW Unit) := [("unicode/utf8.acceptRanges", Rows.laid_unicode_utf8_acceptRanges), ("unicode/utf8.first", Rows.laid_unicode_utf8_first)]
theorem Qs:Rows.laid_unicode_utf8_first=Lib.firstData:=by kernel_rfl
theorem OO:(Rows.laid_unicode_utf8_acceptRanges:DataW Unit)=Lib.acceptData:=by kernel_rfl
theorem RJ {w:World}(h:laidMetH Tryz.prog lst w)(hs:w.ShapedOpen Tryz.prog):Laid w:=by
 have h1:=Lib.laidMet.reads h (.tail _ (.head _))
 have h2:=Lib.laidMet.reads h (.head _)
 rw [Qs] at h1
 rw [OO] at h2
 exact⟨utf8Tabs_of_readsT (U8Types.of196 Tryz.laysValid) ⟨by kernel_rfl,by kernel_rfl,by kernel_rfl,by kernel_rfl,by kernel_rfl,by kernel_rfl,by kernel_rfl⟩ h1 h2⟩
noncomputable def laidWorld (os:Os):World :=
 let w0:=World.holding Tryz.prog os ⟨#[],#[],[]⟩
 let put (h:Array Obj) (g:Nat) (cs:Array Value):Array Obj:=h.modify g fun
  | .cells _ t frozen=>.cells cs t frozen
  | o=>o
 let h1:=put w0.heap 0 (Lib.firstTab.map fun z=>Value.int .u8 z).toArray
 let h2:=put h1 1 ((List.range 16).flatMap fun i=>[Value.int .u8 (Lib.accLo i),Value.int .u8 (Lib.accHi i)]).toArray
 { w0 with heap:=h2 }
theorem laid_met (os:Os)(args:Array Value):laidMet Tryz.prog lst ((laidWorld os).forCall (fun _ _=>0) ⟨#[],args,[]⟩).memory :=
 (LaidIn.of_run (l:=lst) [0,1] 8 (by kernel_rfl) (by kernel_rfl) (by kernel_rfl) (by kernel_rfl)).met
end Go.Proofs.YtfelmdkeaacfeaaGreatDoor.W
end
