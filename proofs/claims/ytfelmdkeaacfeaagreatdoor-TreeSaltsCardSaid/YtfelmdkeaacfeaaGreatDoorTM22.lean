/- Texts joined: DropA SetB MkT. -/
import Derived.Test.YtfelmdkeaacfeaaGreatDoorTM11
import Derived.Test.YtfelmdkeaacfeaaGreatDoorTM21
import Derived.Test.YtfelmdkeaacfeaaGreatDoorTM1
import Derived.Test.YtfelmdkeaacfeaaGreatDoorTM13
import Derived.Test.YtfelmdkeaacfeaaGreatDoorTM16
import Derived.Test.YtfelmdkeaacfeaaGreatDoorTM5
import Derived.Deep.CutBlock
set_option maxRecDepth 100000
set_option maxHeartbeats 40000000
set_option linter.unusedVariables false
set_option linter.unusedSimpArgs false
section
namespace Go.Proofs.YtfelmdkeaacfeaaGreatDoor.W
open Go.RowKit
theorem all_of_own {B e size n:Nat}{w:World}{v:Value}{xs:List Value}(h:w.ownsRow B e size v n xs)(hB:B≤w.heap.size):All B w [sl e size v n xs] w :=
 ⟨by intro o ho;simp at ho;subst ho;exact own_low h (Nat.zero_le _),by simp,by intro o ho k hk;simp at ho;subst ho;exact(h.lt k hk).1,Below.refl _ _,hB⟩
theorem setAttr_no {B R g cap:Nat}{S:Tr}{fv:Value}{w:World}{K d}(h:TAt B R S (.slice (some ⟨g,0,none⟩) S.slots.length cap) fv w)(hL:Lk S K d)(i:Nat)(n:Nd)(hi:S.at i=some n)(hk:n.kind≠2)(a b:Value) :
  Calls Tryz.prog 18 #[.pointer (some ⟨R,0,none⟩),.int .i64 (S.hd i),a,b] w fun e w'=>e=.returned (.tuple #[.slice none 0 0,.int .i64 10])∧Below w.heap.size w w':=by
 have HE:=Lib.hid (element_no h hL i n hi hk)
 clear h hL hi
 go_enter Tryz.func18,Tryz.ntmps18
 go_wp2_with fail
 refine HE.out.mono ?_
 rintro e w1 ⟨rfl,hb1⟩
 go_wp2_with fail
 go_ret2
 exact⟨rfl,hb1⟩
theorem dropAttr_no {B R g cap:Nat}{S:Tr}{fv:Value}{w:World}{K d}(h:TAt B R S (.slice (some ⟨g,0,none⟩) S.slots.length cap) fv w)(hL:Lk S K d)(i:Nat)(n:Nd)(hi:S.at i=some n)(hk:n.kind≠2)(a:Value) :
  Calls Tryz.prog 17 #[.pointer (some ⟨R,0,none⟩),.int .i64 (S.hd i),a] w fun e w'=>e=.returned (.tuple #[.slice none 0 0,.int .i64 10])∧Below w.heap.size w w':=by
 have HE:=Lib.hid (element_no h hL i n hi hk)
 clear h hL hi
 go_enter Tryz.func17,Tryz.ntmps17
 go_wp2_with fail
 refine HE.out.mono ?_
 rintro e w1 ⟨rfl,hb1⟩
 go_wp2_with fail
 go_ret2
 exact⟨rfl,hb1⟩
inductive SetX (W:Nat) (S:Tr) (i:Nat) (n:Nd) (name val:List UInt8):Tr→Value→Int→List (List Value)→Prop
 | kind (h:n.kind≠2):SetX W S i n name val S (.slice none 0 0) 10 []
 | arg (hk:n.kind=2) (h:headB name=false):SetX W S i n name val S (.slice none 0 0) 1 []
 | full (hk:n.kind=2) (h:headB name=true) (h1:nmOf n.attrs name=-1) (h2:64≤n.attrs.length):SetX W S i n name val S (.slice none 0 0) 5 []
 | add (v av:Value) (hk:n.kind=2) (h:headB name=true) (h1:nmOf n.attrs name=-1) (h2:n.attrs.length < 64) (hfr:∀k,av.ownBlock=some k→W≤k) :
   SetX W S i n name val (S.put i { n with av:=av,attrs:=n.attrs ++ [(name,fix val)] }) v 0 [recC 3 (S.hd i) 0 0 0 0 name [] false 0 0]
 | set (v av:Value) (k:Nat) (y:Atr) (hk:n.kind=2) (h:headB name=true) (h1:nmOf n.attrs name=(k:Int)) (h2:n.attrs[k]? = some y) (hfr:∀k,av.ownBlock=some k→W≤k) :
   SetX W S i n name val (S.put i { n with av:=av,attrs:=n.attrs.set k (y.1,fix val) }) v 0 [recC 3 (S.hd i) 0 0 0 0 name y.2 true 0 0]
theorem setAttr_x {B R g cap:Nat}{S:Tr}{fv:Value}{w:World}{K d}(h:TAt B R S (.slice (some ⟨g,0,none⟩) S.slots.length cap) fv w)(hL:Lk S K d)(i:Nat)(n:Nd)(hi:S.at i=some n)(hk:n.kind=2)(hl:n.attrs.length≤64)
  (name val:List UInt8)(hnl:name.length≤1000)(hv:val.length≤1000)(hT:Laid w) :
  Calls Tryz.prog 18 #[.pointer (some ⟨R,0,none⟩),.int .i64 (S.hd i),strV name,strV val] w fun e w'=>∃S' v er l,SetX w.heap.size S i n name val S' v er l∧e=.returned (.tuple #[v,.int .i64 er]) ∧
   RcAt w' w.heap.size v l∧TAt B R S' (.slice (some ⟨g,0,none⟩) S'.slots.length cap) fv w'∧Chg (fun k=>k=g) w w':=by
 have HE:=Lib.hid (element_el h hL i n hi hk)
 have HN:=Lib.hid (fun wx (hb:Below w.heap.size w wx)=>attrName_b name (by omega) wx (hT.below hb))
 have HR:=Lib.hid (fun wx (hb:Below w.heap.size w wx)=>repair_any val wx (by omega) (hT.below hb))
 have HM:=Lib.hid (fun wx (hb:Below w.heap.size w wx)=>named_any (h.below hb) i n hi name (by omega))
 have HTx:=Lib.hid h
 have hnm:=hnl
 have hfl:=fix_len val
 have Hi:=Lib.hid hi
 clear hT h
 unfold strV at *
 have hval:∃v,v=fix val:=⟨_,rfl⟩
 obtain⟨val',hval⟩:=hval
 rw [← hval] at hfl HR
 have HVal:=Lib.hid hval
 clear hval
 have hsz:(⟨val'.toArray⟩:ByteArray).size=val'.length:=by show val'.toArray.size=_;simp
 have HLg:=Lib.hid (fun wx=>long_any ⟨val'.toArray⟩ (by rw [hsz];omega) wx)
 rw [hsz,decide_eq_false (by omega)] at HLg
 have H2:=Lib.hid (fun wx (hb:Below w.heap.size w wx)=>nd_cell (HTx.out.below hb) Hi.out 2 (by omega))
 simp only [ndC,zzD,zzE] at H2
 obtain⟨va,vc,hva,_⟩:=HTx.out.attrs i n (at_slot hi)
 rw [hva] at H2
 clear hi hL
 go_enter Tryz.func18,Tryz.ntmps18
 go_wp2_with fail
 refine HE.out.mono ?_
 rintro e w1 ⟨rfl,hb1⟩
 go_wp2_with fail
 refine(HN.out _ hb1).mono ?_
 rintro e w2 ⟨rfl,hb2⟩
 have hB2:=bthen hb1 hb2
 have HHb:=Lib.hid (show headB name=headB name from rfl)
 cases hhb:headB name
 ·have HTz:=HTx.out.below hB2
  go_wp2_with fail
  go_ret2
  exact⟨S,_,1,[],.arg hk hhb,rfl,World.ownsRow_nil _ _ _ _,HTz,Chg.of_below hB2⟩
 have HHx:=Lib.hid hhb
 clear hhb
 go_wp2_with fail
 refine(HR.out _ hB2).mono ?_
 rintro e w3 ⟨rfl,hb3⟩
 have hB3:=bthen hB2 hb3
 go_wp2_with fail
 refine(HM.out _ hB3).mono ?_
 rintro e w4 ⟨rfl,hb4⟩
 have hB4:=bthen hB3 hb4
 have c2:=H2.out _ hB4
 go_wp2_with fail
 refine(HLg.out _).mono ?_
 rintro e w5 ⟨rfl,hw⟩
 rw [hw]
 clear hw
 have hcases:=nmOf_cases n.attrs name
 have hnr:∃r,r=nmOf n.attrs name:=⟨_,rfl⟩
 obtain⟨r,hnr⟩:=hnr
 rw [← hnr] at hcases ⊢
 have HNr:=Lib.hid hnr
 clear HE HN HR HM HLg hb1 hb2 hb3 hb4 hB2 hB3 hnr
 rcases hcases with rfl | ⟨k,y,rfl,hy⟩
 ·by_cases hfull:n.attrs.length=64
  ·have d1:decide ((64:Int)≤(n.attrs.length:Int))=true:=by simp;omega
   go_wp2_with fail
   go_ret2
   exact⟨S,_,5,[],(.full hk HHx.out HNr.out.symm (by omega)),rfl,World.ownsRow_nil _ _ _ _,HTx.out.below hB4,Chg.of_below hB4⟩
  ·have d1:decide ((64:Int)≤(n.attrs.length:Int))=false:=by simp;omega
   go_upto_region 11 with fail
   have k6:Blk (w4.alloc (.cells #[.int .i64 3,.int .i64 (S.hd i),.int .i64 0,.int .i64 0,.int .i64 0,.int .i64 0,.string ⟨name.toArray⟩,.string ⟨#[]⟩,.bool false,.int .i64 0,.int .i64 0] 41)) w4.heap.size [.int .i64 3,.int .i64 (S.hd i),.int .i64 0,.int .i64 0,.int .i64 0,.int .i64 0,.string ⟨name.toArray⟩,.string ⟨#[]⟩,.bool false,.int .i64 0,.int .i64 0] 41:=Blk.new w4 _ _
   have hB6:Below w.heap.size w (w4.alloc (.cells #[.int .i64 3,.int .i64 (S.hd i),.int .i64 0,.int .i64 0,.int .i64 0,.int .i64 0,.string ⟨name.toArray⟩,.string ⟨#[]⟩,.bool false,.int .i64 0,.int .i64 0] 41)):=hB4.alloc hB4.size _
   have hr6:w.heap.size≤w4.heap.size:=hB4.size
   generalize hrb:w4.heap.size=rb at *
   generalize w4.alloc (.cells #[.int .i64 3,.int .i64 (S.hd i),.int .i64 0,.int .i64 0,.int .i64 0,.int .i64 0,.string ⟨name.toArray⟩,.string ⟨#[]⟩,.bool false,.int .i64 0,.int .i64 0] 41)=w6 at *
   have hT6:=HTx.out.below hB6
   have c6:=H2.out _ hB6
   have HCl:=Lib.hid (clone_attr (hva ▸ hT6.attrs i n (at_slot Hi.out)) (by omega))
   have z2:=nd_free hT6 (i*10+1+2)
   have HT6:=Lib.hid hT6
   have HK6:=Lib.hid k6
   clear hT6 k6 c2
   go_wp2_with fail
   refine HCl.out.mono ?_
   rintro e w7 ⟨v1,rfl,hown7,hb7⟩
   have hB7:=bthen hB6 hb7
   have hT7:=HTx.out.below hB7
   have c7:=H2.out _ hB7
   have z7:=nd_free hT7 (i*10+1+2)
   obtain⟨a1,cap1,rfl⟩:=own_shapeB hown7
   have HO7:=Lib.hid hown7
   have HT7:=Lib.hid hT7
   have HK7:=Lib.hid (HK6.out.below hb7)
   clear hT7 hown7 HCl z2 c6
   go_upto_region 12 with fail
   have hrow8:=own_setB HT7.out.slots (i*10+1+2) (.slice a1 n.attrs.length cap1)
   have hch8:Chg (fun k=>k=g) w (w7.setCell ⟨g,i*10+1+2,none⟩ (.slice a1 n.attrs.length cap1)):=(Chg.of_below (F:=fun k=>k=g) hB7).setCell ⟨g,i*10+1+2,none⟩ (fun _=>(rfl:g=g)) _
   have hidx:i*10+1+2 < (rowC S.slots).length:=by rw [rowC_len];have:=at_lt Hi.out;omega
   have hc8:(w7.setCell ⟨g,i*10+1+2,none⟩ (.slice a1 n.attrs.length cap1)).cell? ⟨g,i*10+1+2,none⟩=some (.slice a1 n.attrs.length cap1):=by
    have:=hrow8.cells (g:=g) rfl (i*10+1+2) (.slice a1 n.attrs.length cap1) (List.getElem?_set_self hidx)
    rwa [Go.WideShapes.add_plain,Nat.zero_add] at this
   have hz8:(w7.setCell ⟨g,i*10+1+2,none⟩ (.slice a1 n.attrs.length cap1)).frozen? ⟨g,i*10+1+2,none⟩=false:=by
    rcases hrow8.2 with ⟨e,_⟩ | ⟨g',cap',cur,e,_,hh,_⟩
    ·cases e
    ·cases e;exact Lib.frozen_of_heap hh _
   have hg0:=(HTx.out.slots.lt g rfl).2
   have HK8:=Lib.hid (HK7.out.setOther ⟨g,i*10+1+2,none⟩ (by show rb≠g;omega) (.slice a1 n.attrs.length cap1))
   have hne1:∀k,(Value.slice a1 n.attrs.length cap1).ownBlock=some k→k≠g:=fun k hk e=>by have:=(HO7.out.lt k hk).1;have:=hB6.size;omega
   have HO8:=Lib.hid (own_kB (w':=w7.setCell ⟨g,i*10+1+2,none⟩ (.slice a1 n.attrs.length cap1)) HO7.out (fun g' hg'=>Below.heap_setCell _ _ _ _ (hne1 g' hg')))
   have HRow8:=Lib.hid hrow8
   have HCh8:=Lib.hid hch8
   have hs8:w6.heap.size≤(w7.setCell ⟨g,i*10+1+2,none⟩ (.slice a1 n.attrs.length cap1)).heap.size:=by simp [World.setCell];exact hb7.size
   clear hrow8 hch8 HK7 HO7 HT7 c7 z7 hb7
   generalize w7.setCell ⟨g,i*10+1+2,none⟩ (.slice a1 n.attrs.length cap1)=w8 at *
   obtain⟨i0,hi0,hz0,hz1,hz2⟩:=info_parts infoA
   have HLc:=Lib.hid (attrC_len n.attrs)
   have HSn:=Lib.hid (show attrC (n.attrs ++ [(name,val')])=attrC n.attrs ++ [.string ⟨name.toArray⟩,.string ⟨val'.toArray⟩] from attrC_snoc n.attrs (name,val'))
   generalize attrC n.attrs=ys at *
   go_wp2_with (at_builtin;refine wpList_append_own _ rfl _ _ 60 rfl w6.heap.size 91 i0 _ 2 32 Tryz.underlying60 hi0 hz0 hz1 hz2 rfl (by decide) _ n.attrs.length _ rfl (HO8.out.alloc _) _ 1 1 [.string ⟨name.toArray⟩,.string ⟨val'.toArray⟩] rfl rfl ?cc ?co ?c1 ?c2 ?c3 ?_)
   case cc =>
    intro j u hu
    have:=(Blk.new w8 [.string ⟨name.toArray⟩,.string ⟨val'.toArray⟩] 91).cell j
    rw [Go.WideShapes.add_plain,Nat.zero_add]
    exact this.trans hu
   case co=>intro u hu;simp only [List.mem_cons,List.not_mem_nil,or_false] at hu;rcases hu with rfl | rfl <;> rfl
   case c1=>unfold maxLen;omega
   case c2=>omega
   case c3=>simp;omega
   intro v2 w9 hown9 hgr9 _
   obtain⟨a2,cap2,rfl⟩:=own_shapeB hown9
   have hC9:Chg (fun k=>(Value.slice a1 n.attrs.length cap1).ownBlock=some k) w8 w9:=((Chg.refl _ w8).alloc _).grown hgr9 (fun k e _=>e)
   have hrow9:=own_kB (w':=w9) HRow8.out (fun g' hg'=>hC9.block g' (HRow8.out.lt g' hg').2 (fun e=>by cases hg';exact hne1 _ e rfl))
   have hk9:Blk w9 rb _ _:=HK8.out.chg hC9 (fun e=>by have:=(HO8.out.lt rb e).1;have h1:=HK6.out.lt;omega)
   have hc9:w9.cell? ⟨g,i*10+1+2,none⟩=some (.slice a1 n.attrs.length cap1):=by
    have:=hrow9.cells (g:=g) rfl (i*10+1+2) (.slice a1 n.attrs.length cap1) (List.getElem?_set_self hidx)
    rwa [Go.WideShapes.add_plain,Nat.zero_add] at this
   have hz9:w9.frozen? ⟨g,i*10+1+2,none⟩=false:=by
    rcases hrow9.2 with ⟨e,_⟩ | ⟨g',cap',cur,e,_,hh,_⟩
    ·cases e
    ·cases e;exact Lib.frozen_of_heap hh _
   have hch9:Chg (fun k=>k=g) w w9:=HCh8.out.trans hC9 (fun k hk e=>by have:=(HO8.out.lt k e).1;have:=hB6.size;omega)
   have HRow9:=Lib.hid hrow9
   have HCh9:=Lib.hid hch9
   have HK9:=Lib.hid hk9
   have HO9:=Lib.hid hown9
   have hs9:w6.heap.size≤w9.heap.size:=Nat.le_trans hs8 hC9.size
   clear hown9 hgr9 hC9 hrow9 hk9 hch9 HRow8 HCh8 HK8 HO8 hc8 hz8 HLc
   go_upto_region 16 with fail
   have hrow10:=own_setB HRow9.out (i*10+1+2) (.slice a2 (n.attrs.length+1) cap2)
   rw [List.set_set] at hrow10
   have hch10:=HCh9.out.setCell ⟨g,i*10+1+2,none⟩ (fun _=>(rfl:g=g)) (.slice a2 (n.attrs.length+1) cap2)
   have hne2:∀k,(Value.slice a2 (n.attrs.length+1) cap2).ownBlock=some k→k≠g:=fun k hk e=>by have:=(HO9.out.lt k hk).1;have:=hB6.size;omega
   have hown10:=own_kB (w':=w9.setCell ⟨g,i*10+1+2,none⟩ (.slice a2 (n.attrs.length+1) cap2)) HO9.out (fun g' hg'=>Below.heap_setCell _ _ _ _ (hne2 g' hg'))
   have hk10:=HK9.out.setOther ⟨g,i*10+1+2,none⟩ (by show rb≠g;omega) (.slice a2 (n.attrs.length+1) cap2)
   have hfr:∀k,(Value.slice a2 (n.attrs.length+1) cap2).ownBlock=some k→w.heap.size≤k:=fun k hk=>Nat.le_trans hB6.size (HO9.out.lt k hk).1
   have hs10:w6.heap.size≤(w9.setCell ⟨g,i*10+1+2,none⟩ (.slice a2 (n.attrs.length+1) cap2)).heap.size:=by simp [World.setCell];exact hs9
   rw [← HSn.out] at hown10
   have HT10:=Lib.hid (HTx.out.setAv Hi.out (.slice a2 (n.attrs.length+1) cap2) (n.attrs ++ [(name,val')]) hch10 (own_low' hrow10) (attr_of_own (B:=B) (by rw [List.length_append,List.length_singleton];exact hown10) (by have:=HTx.out.base;have:=HTx.out.blk.lt;have:=hB6.size;omega)))
   have HCh10:=Lib.hid hch10
   clear hrow10 hch10 hown10 HRow9 HCh9 HK9 HO9 hc9 hz9
   generalize w9.setCell ⟨g,i*10+1+2,none⟩ (.slice a2 (n.attrs.length+1) cap2)=w10 at *
   have b0:=hk10.cell 0
   have b1:=hk10.cell 1
   have b2:=hk10.cell 2
   have b3:=hk10.cell 3
   have b4:=hk10.cell 4
   have b5:=hk10.cell 5
   have b6:=hk10.cell 6
   have b7:=hk10.cell 7
   have b8:=hk10.cell 8
   have b9:=hk10.cell 9
   have b10:=hk10.cell 10
   simp only [zzD,zzE] at b0 b1 b2 b3 b4 b5 b6 b7 b8 b9 b10
   go_wp2_with fail
   go_ret2
   refine⟨_,_,0,_,(by rw [HVal.out];exact .add _ (.slice a2 (n.attrs.length+1) cap2) hk HHx.out HNr.out.symm (by omega) hfr),rfl,?_,HT10.out.below ((Below.refl _ w10).alloc (Nat.le_refl _) _),HCh10.out.alloc _⟩
   exact rc_new w10 _ (Nat.le_trans hB6.size hs10) rfl
 ·have d1:decide ((k:Int) < 0)=false:=by simp
  go_upto_region 11 with fail
  have k6:Blk (w4.alloc (.cells #[.int .i64 3,.int .i64 (S.hd i),.int .i64 0,.int .i64 0,.int .i64 0,.int .i64 0,.string ⟨name.toArray⟩,.string ⟨#[]⟩,.bool false,.int .i64 0,.int .i64 0] 41)) w4.heap.size [.int .i64 3,.int .i64 (S.hd i),.int .i64 0,.int .i64 0,.int .i64 0,.int .i64 0,.string ⟨name.toArray⟩,.string ⟨#[]⟩,.bool false,.int .i64 0,.int .i64 0] 41:=Blk.new w4 _ _
  have hB6:Below w.heap.size w (w4.alloc (.cells #[.int .i64 3,.int .i64 (S.hd i),.int .i64 0,.int .i64 0,.int .i64 0,.int .i64 0,.string ⟨name.toArray⟩,.string ⟨#[]⟩,.bool false,.int .i64 0,.int .i64 0] 41)):=hB4.alloc hB4.size _
  have hr6:w.heap.size≤w4.heap.size:=hB4.size
  generalize hrb:w4.heap.size=rb at *
  generalize w4.alloc (.cells #[.int .i64 3,.int .i64 (S.hd i),.int .i64 0,.int .i64 0,.int .i64 0,.int .i64 0,.string ⟨name.toArray⟩,.string ⟨#[]⟩,.bool false,.int .i64 0,.int .i64 0] 41)=w6 at *
  have hT6:=HTx.out.below hB6
  have c6:=H2.out _ hB6
  have HCl:=Lib.hid (clone_attr (hva ▸ hT6.attrs i n (at_slot Hi.out)) (by omega))
  have z2:=nd_free hT6 (i*10+1+2)
  have HT6:=Lib.hid hT6
  have HK6:=Lib.hid k6
  clear hT6 k6 c2
  go_wp2_with fail
  refine HCl.out.mono ?_
  rintro e w7 ⟨v1,rfl,hown7,hb7⟩
  have hB7:=bthen hB6 hb7
  have hT7:=HTx.out.below hB7
  have c7:=H2.out _ hB7
  have z7:=nd_free hT7 (i*10+1+2)
  obtain⟨a1,cap1,rfl⟩:=own_shapeB hown7
  have HO7:=Lib.hid hown7
  have HT7:=Lib.hid hT7
  have HK7:=Lib.hid (HK6.out.below hb7)
  clear hT7 hown7 HCl z2 c6
  go_upto_region 12 with fail
  have hrow8:=own_setB HT7.out.slots (i*10+1+2) (.slice a1 n.attrs.length cap1)
  have hch8:Chg (fun k=>k=g) w (w7.setCell ⟨g,i*10+1+2,none⟩ (.slice a1 n.attrs.length cap1)):=(Chg.of_below (F:=fun k=>k=g) hB7).setCell ⟨g,i*10+1+2,none⟩ (fun _=>(rfl:g=g)) _
  have hidx:i*10+1+2 < (rowC S.slots).length:=by rw [rowC_len];have:=at_lt Hi.out;omega
  have hc8:(w7.setCell ⟨g,i*10+1+2,none⟩ (.slice a1 n.attrs.length cap1)).cell? ⟨g,i*10+1+2,none⟩=some (.slice a1 n.attrs.length cap1):=by
   have:=hrow8.cells (g:=g) rfl (i*10+1+2) (.slice a1 n.attrs.length cap1) (List.getElem?_set_self hidx)
   rwa [Go.WideShapes.add_plain,Nat.zero_add] at this
  have hz8:(w7.setCell ⟨g,i*10+1+2,none⟩ (.slice a1 n.attrs.length cap1)).frozen? ⟨g,i*10+1+2,none⟩=false:=by
   rcases hrow8.2 with ⟨e,_⟩ | ⟨g',cap',cur,e,_,hh,_⟩
   ·cases e
   ·cases e;exact Lib.frozen_of_heap hh _
  have hg0:=(HTx.out.slots.lt g rfl).2
  have HK8:=Lib.hid (HK7.out.setOther ⟨g,i*10+1+2,none⟩ (by show rb≠g;omega) (.slice a1 n.attrs.length cap1))
  have hne1:∀k,(Value.slice a1 n.attrs.length cap1).ownBlock=some k→k≠g:=fun k hk e=>by have:=(HO7.out.lt k hk).1;have:=hB6.size;omega
  have HO8:=Lib.hid (own_kB (w':=w7.setCell ⟨g,i*10+1+2,none⟩ (.slice a1 n.attrs.length cap1)) HO7.out (fun g' hg'=>Below.heap_setCell _ _ _ _ (hne1 g' hg')))
  have HRow8:=Lib.hid hrow8
  have HCh8:=Lib.hid hch8
  have hs8:w6.heap.size≤(w7.setCell ⟨g,i*10+1+2,none⟩ (.slice a1 n.attrs.length cap1)).heap.size:=by simp [World.setCell];exact hb7.size
  clear hrow8 hch8 HK7 HO7 HT7 c7 z7 hb7
  generalize w7.setCell ⟨g,i*10+1+2,none⟩ (.slice a1 n.attrs.length cap1)=w8 at *
  have hkl:=(List.getElem?_eq_some_iff.1 hy).1
  obtain⟨ga,hga⟩:∃ga,a1=some ⟨ga,0,none⟩:=by
   rcases HO8.out.2 with ⟨e,_⟩ | ⟨ga,cap',cur,e,_⟩
   ·simp only [Value.slice.injEq] at e;omega
   ·simp only [Value.slice.injEq] at e;exact⟨ga,e.1⟩
  subst hga
  have hga6:=(HO8.out.lt ga rfl).1
  have hga8:=(HO8.out.lt ga rfl).2
  have hrb6:=HK6.out.lt
  have hyc:=(attrC_at n.attrs k y hy).2
  have hat:=attrC_len n.attrs
  have q1:w8.cell? ⟨ga,k*2+1,none⟩=some (strV y.2):=by
   have:=HO8.out.cells (g:=ga) rfl (2*k+1) _ hyc
   rw [Go.WideShapes.add_plain,Nat.zero_add] at this
   rw [show k*2+1=2*k+1 by omega]
   exact this
  have p7:=HK8.out.cell 7
  have p8:=HK8.out.cell 8
  simp only [zzD,zzE] at p7 p8
  have zf:=HK8.out.free
  unfold strV at q1
  go_upto_region 15 with fail
  have hk9:=(HK8.out.set 7 (.string ⟨y.2.toArray⟩)).set 8 (.bool true)
  simp only [List.set_cons_succ,List.set_cons_zero] at hk9
  have hgrb:g≠rb:=by omega
  have hgarb:ga≠rb:=by omega
  have oth:∀k',k'≠rb→((w8.setCell ⟨rb,7,none⟩ (.string ⟨y.2.toArray⟩)).setCell ⟨rb,8,none⟩ (.bool true)).heap[k']? = w8.heap[k']?:=fun k' hk'=>(Below.heap_setCell _ _ _ _ hk').trans (Below.heap_setCell _ _ _ _ hk')
  have hrow9:=own_kB HRow8.out (fun g' hg'=>oth g' (by cases hg';exact hgrb))
  have hown9:=own_kB HO8.out (fun g' hg'=>oth g' (by cases hg';exact hgarb))
  have hch9:=(HCh8.out.setCell ⟨rb,7,none⟩ (fun hk=>by have:rb < w.heap.size:=hk;omega) (.string ⟨y.2.toArray⟩)).setCell ⟨rb,8,none⟩ (fun hk=>by have:rb < w.heap.size:=hk;omega) (.bool true)
  have hs9:w6.heap.size≤((w8.setCell ⟨rb,7,none⟩ (.string ⟨y.2.toArray⟩)).setCell ⟨rb,8,none⟩ (.bool true)).heap.size:=by simp [World.setCell];exact hs8
  clear hc8 hz8 HRow8 HO8 HCh8 HK8 p7 p8 zf q1 oth
  generalize (w8.setCell ⟨rb,7,none⟩ (.string ⟨y.2.toArray⟩)).setCell ⟨rb,8,none⟩ (.bool true)=w9 at *
  have hc9:w9.cell? ⟨g,i*10+1+2,none⟩=some (.slice (some ⟨ga,0,none⟩) n.attrs.length cap1):=by
   have:=hrow9.cells (g:=g) rfl (i*10+1+2) (.slice (some ⟨ga,0,none⟩) n.attrs.length cap1) (List.getElem?_set_self hidx)
   rwa [Go.WideShapes.add_plain,Nat.zero_add] at this
  have q9:w9.cell? ⟨ga,k*2+1,none⟩=some (strV y.2):=by
   have:=hown9.cells (g:=ga) rfl (2*k+1) _ hyc
   rw [Go.WideShapes.add_plain,Nat.zero_add] at this
   rw [show k*2+1=2*k+1 by omega]
   exact this
  have hz9:w9.frozen? ⟨ga,k*2+1,none⟩=false:=by
   rcases hown9.2 with ⟨e,_⟩ | ⟨g',cap',cur,e,_,hh,_⟩
   ·cases e
   ·cases e;exact Lib.frozen_of_heap hh _
  have HRow9:=Lib.hid hrow9
  have HO9:=Lib.hid hown9
  have HCh9:=Lib.hid hch9
  have HK9:=Lib.hid hk9
  clear hrow9 hown9 hch9 hk9
  unfold strV at q9
  go_upto_region 16 with fail
  have hgag:g≠ga:=by omega
  have hrow10:=own_kB (w':=w9.setCell ⟨ga,k*2+1,none⟩ (.string ⟨val'.toArray⟩)) HRow9.out (fun g' hg'=>Below.heap_setCell _ _ _ _ (by cases hg';exact hgag))
  have hown10:=own_setB HO9.out (k*2+1) (.string ⟨val'.toArray⟩)
  have hch10:=HCh9.out.setCell ⟨ga,k*2+1,none⟩ (fun hk=>by have:ga < w.heap.size:=hk;have:=hB6.size;omega) (.string ⟨val'.toArray⟩)
  have hfr:∀k',(Value.slice (some ⟨ga,0,none⟩) n.attrs.length cap1).ownBlock=some k'→w.heap.size≤k':=fun k' hk'=>Nat.le_trans hB6.size (HO9.out.lt k' hk').1
  have hk10:=HK9.out.setOther ⟨ga,k*2+1,none⟩ (by show rb≠ga;omega) (.string ⟨val'.toArray⟩)
  have hs10:w6.heap.size≤(w9.setCell ⟨ga,k*2+1,none⟩ (.string ⟨val'.toArray⟩)).heap.size:=by simp [World.setCell];exact hs9
  have e5:(attrC n.attrs).set (k*2+1) (.string ⟨val'.toArray⟩)=attrC (n.attrs.set k (y.1,val')):=by
   rw [show k*2+1=2*k+1 by omega];exact(attrC_set n.attrs k y hy val').symm
  rw [e5] at hown10
  have HT10:=Lib.hid (HTx.out.setAv Hi.out (.slice (some ⟨ga,0,none⟩) n.attrs.length cap1) (n.attrs.set k (y.1,val')) hch10 (own_low' hrow10) (attr_of_own (B:=B) (by rw [List.length_set];exact hown10) (by have:=HTx.out.base;have:=HTx.out.blk.lt;have:=hB6.size;omega)))
  have HCh10:=Lib.hid hch10
  clear hrow10 hch10 hown10 HRow9 HCh9 HK9 HO9 hc9 hz9 q9
  generalize w9.setCell ⟨ga,k*2+1,none⟩ (.string ⟨val'.toArray⟩)=w10 at *
  have b0:=hk10.cell 0
  have b1:=hk10.cell 1
  have b2:=hk10.cell 2
  have b3:=hk10.cell 3
  have b4:=hk10.cell 4
  have b5:=hk10.cell 5
  have b6:=hk10.cell 6
  have b7:=hk10.cell 7
  have b8:=hk10.cell 8
  have b9:=hk10.cell 9
  have b10:=hk10.cell 10
  simp only [zzD,zzE] at b0 b1 b2 b3 b4 b5 b6 b7 b8 b9 b10
  go_wp2_with fail
  go_ret2
  refine⟨_,_,0,_,(by rw [HVal.out];exact .set _ (.slice (some ⟨ga,0,none⟩) n.attrs.length cap1) k y hk HHx.out HNr.out.symm hy hfr),rfl,?_,HT10.out.below ((Below.refl _ w10).alloc (Nat.le_refl _) _),HCh10.out.alloc _⟩
  exact rc_new w10 _ (Nat.le_trans hB6.size hs10) rfl
theorem setAttr_any {B R g cap:Nat}{S:Tr}{fv:Value}{w:World}{K d}(h:TAt B R S (.slice (some ⟨g,0,none⟩) S.slots.length cap) fv w)(hL:Lk S K d)(i:Nat)(n:Nd)(hi:S.at i=some n)(hl:n.attrs.length≤64)
  (name val:List UInt8)(hnl:name.length≤1000)(hv:val.length≤1000)(hT:Laid w) :
  Calls Tryz.prog 18 #[.pointer (some ⟨R,0,none⟩),.int .i64 (S.hd i),strV name,strV val] w fun e w'=>∃S' v er l,SetX w.heap.size S i n name val S' v er l∧e=.returned (.tuple #[v,.int .i64 er]) ∧
   RcAt w' w.heap.size v l∧TAt B R S' (.slice (some ⟨g,0,none⟩) S'.slots.length cap) fv w'∧Chg (fun k=>k=g) w w':=by
 by_cases hk:n.kind=2
 ·exact setAttr_x h hL i n hi hk hl name val hnl hv hT
 ·refine(setAttr_no h hL i n hi hk _ _).mono ?_
  rintro e w1 ⟨rfl,hb⟩
  exact⟨S,_,10,[],.kind hk,rfl,World.ownsRow_nil _ _ _ _,h.below hb,Chg.of_below hb⟩
def mkN (kind:Int)(name:List UInt8)(av:Value)(al:List Atr)(data:List UInt8):Nd:=⟨kind,name,av,al,data,0,0,0,0,0⟩
inductive MakT (W:Nat) (S:Tr) (kind:Int) (name data:List UInt8) (al:List Atr):Tr→Int→Int→Prop
 | kind (h2:kind≠2) (h3:kind≠3) (h4:kind≠4):MakT W S kind name data al S 0 1
 | arg (h:kind=2) (hn:(elmB name && namesB al)=false):MakT W S kind name data al S 0 1
 | many (h:kind=2) (hn:(elmB name && namesB al)=true) (h2:64 < al.length):MakT W S kind name data al S 0 5
 | el (av:Value) (h:kind=2) (hn:(elmB name && namesB al)=true) (h2:al.length≤64) (hfr:∀k,av.ownBlock=some k→W≤k):MakT W S kind name data al (S.add (mkN 2 name av (al.map fun a=>(a.1,fix a.2)) [])) (S.hd S.addI) 0
 | tx (h:kind=3∨kind=4):MakT W S kind name data al (S.add (mkN kind [] (.slice none 0 0) [] (fix data))) (S.hd S.addI) 0
def MakTR (B R:Nat)(S:Tr)(sv fv:Value)(w:World)(kind:Int)(name data:List UInt8)(al:List Atr)(e:Ending)(w':World):Prop :=
 ∃S' sv' fv' h en,MakT w.heap.size S kind name data al S' h en∧e=.returned (.tuple #[.int .i64 h,.int .i64 en])∧TAt B R S' sv' fv' w'∧Chg (fun k=>k=R∨sv.ownBlock=some k) w w'∧(sv'.ownBlock=sv.ownBlock∨∃k,sv'.ownBlock=some k∧w.heap.size≤k)∧fv'.ownBlock=fv.ownBlock
theorem MakTR.same {B R:Nat}{S:Tr}{sv fv:Value}{w w':World}{kind:Int}{name data:List UInt8}{al:List Atr}(h:TAt B R S sv fv w)(hb:Below w.heap.size w w'){en:Int}(hm:MakT w.heap.size S kind name data al S 0 en):MakTR B R S sv fv w kind name data al (.returned (.tuple #[.int .i64 0,.int .i64 en])) w' :=
 ⟨S,sv,fv,0,en,hm,rfl,h.below hb,Chg.of_below hb,.inl rfl,rfl⟩
theorem mkT_3 {B R:Nat}{S:Tr}{sv fv:Value}{w:World}(h:TAt B R S sv fv w)(hT:Laid w)(hfr:∀i∈S.free,S.slots[i]? = some none)(hfl:S.free.length≤1000000)(hl:S.slots.length < 20000)(name data:List UInt8)(hd:data.length≤1000)(v:Value)(al:List Atr) :
  Calls Tryz.prog 39 #[.pointer (some ⟨R,0,none⟩),(.int .i64 3),.string ⟨name.toArray⟩,.string ⟨data.toArray⟩,v] w (MakTR B R S sv fv w 3 name data al):=by
 have HRp:=Lib.hid (fun wx (hb:Below w.heap.size w wx)=>repair_any data wx (by omega) (hT.below hb))
 have HM:=Lib.hid (MakT.tx (W:=w.heap.size) (S:=S) (name:=name) (data:=data) (al:=al) (kind:=3) (by decide))
 have hfx:=fix_len data
 have HTt:=Lib.hid h
 have hlv:S.live≤S.slots.length:=List.length_filter_le _ _
 have hlt:=h.blk.lt
 have HA:=Lib.hid (fun w9 (hb:Below w.heap.size w w9)=>add_any (h.below hb) hfr hfl (by omega) (mkN 3 [] (.slice none 0 0) [] (fix data)) ⟨none,0,rfl,.inl rfl⟩)
 clear h hT hfr hfl
 go_enter Tryz.func39,Tryz.ntmps39
 go_wp2_with fail
 have hx0:=Blk.new w (ndC (mkN 3 [] (.slice none 0 0) [] [])) 62
 have hb0:=(Below.refl w.heap.size w).alloc (Nat.le_refl _) (.cells (ndC (mkN 3 [] (.slice none 0 0) [] [])).toArray 62)
 refine(HRp.out _ hb0).mono ?_
 rintro e w2 ⟨rfl,hb2⟩
 have hb02:=bthen hb0 hb2
 have hx2:=Blk.below hx0 hb2
 simp only [ndC,mkN,strV] at hx2
 have c2:=hx2.cell 2
 have c3:=hx2.cell 3
 simp only [zzD,zzE] at c2 c3
 have f3:=hx2.free 3
 have HX3:=Lib.hid (hx2.set 3 (.string ⟨(fix data).toArray⟩))
 have HB3:=Lib.hid (hb02.setCell (p:=⟨w.heap.size,3,none⟩) (Nat.le_refl _) (.string ⟨(fix data).toArray⟩))
 clear hb0 hb2 hb02 hx0 hx2
 go_upto_region 16 with fail
 clear c2 c3 f3
 generalize w2.setCell ⟨w.heap.size,3,none⟩ (.string ⟨(fix data).toArray⟩)=w3 at *
 have hT3:=HTt.out.below HB3.out
 have HL:=Lib.hid (len_any hT3)
 have x2:=HX3.out.cell 2
 have x3:=HX3.out.cell 3
 simp only [List.set_cons_succ,List.set_cons_zero,zzD,zzE] at x2 x3
 have zR:=hT3.blk.free
 clear hT3
 have d1:decide ((20000:Int)≤(S.live:Int))=false:=by simp;omega
 go_wp2_with fail
 refine HL.out.mono ?_
 rintro e w5 ⟨rfl,hw⟩
 rw [hw]
 clear hw
 go_wp2_with fail
 refine(long_any ⟨(fix data).toArray⟩ (by rw [bsz];omega) _).mono ?_
 rintro e w6 ⟨rfl,hw⟩
 rw [hw,show decide (1048576 < (⟨(fix data).toArray⟩:ByteArray).size)=false by rw [bsz];simp;omega]
 clear hw
 go_wp2_with fail
 refine(containsFunc_nil _ _).mono ?_
 rintro e w7 ⟨rfl,hw⟩
 rw [hw]
 clear hw d1 x2 x3
 go_upto_region 18 with fail
 have hne:=stb_ne w3
 have hgl:=HX3.out.lt
 have xs:=fun(x:InS (StB w3))=>HX3.out.below x.h
 simp only [List.set_cons_succ,List.set_cons_zero] at xs
 have z0:=fun x=>(xs x).cell 0
 have z1:=fun x=>(xs x).cell 1
 have z2:=fun x=>(xs x).cell 2
 have z3:=fun x=>(xs x).cell 3
 have z4:=fun x=>(xs x).cell 4
 have z5:=fun x=>(xs x).cell 5
 have z6:=fun x=>(xs x).cell 6
 have z7:=fun x=>(xs x).cell 7
 have z8:=fun x=>(xs x).cell 8
 simp only [zzD,zzE] at z0 z1 z2 z3 z4 z5 z6 z7 z8
 clear xs
 refine reg_b (fun _=>undef) 4 (by kernel_rfl) (by kernel_rfl) ?_
 simp only [zzF,zzG,zzH,zzI]
 repeat (first
  | (refine m_held (by rfl) (by rfl) (fun K hK=>?_);go_big_quiet_step (fail);refine wpQuiet_nil ?_;refine hK.out _ ?_;clear hK K)
  | (refine m_skip (by rfl) ?_;simp only [Act.put,zzA,zzB,zzC]))
 refine m_nil ?_
 intro w8 h8
 clear z0 z1 z2 z3 z4 z5 z6 z7 z8 hne
 go_wp2_with fail
 have h8':Below w.heap.size w w8:=HB3.out.trans (h8.mono HB3.out.size)
 refine(HA.out _ h8').mono ?_
 rintro e w9 ⟨sv',fv',rfl,hT9,hC9,hsv,hfv⟩
 have H9:=Lib.hid hT9
 have HC:=Lib.hid hC9
 have HS:=Lib.hid hsv
 clear hT9 hC9 hsv
 go_wp2_with fail
 go_ret2
 refine⟨_,sv',fv',_,0,HM.out,rfl,H9.out,(Chg.of_below h8').trans HC.out (fun _ _ h=>h),?_,hfv⟩
 rcases HS.out with e | ⟨k,e,hk⟩
 ·exact .inl e
 ·exact .inr ⟨k,e,Nat.le_trans h8'.size hk⟩
theorem mkT_4 {B R:Nat}{S:Tr}{sv fv:Value}{w:World}(h:TAt B R S sv fv w)(hT:Laid w)(hfr:∀i∈S.free,S.slots[i]? = some none)(hfl:S.free.length≤1000000)(hl:S.slots.length < 20000)(name data:List UInt8)(hd:data.length≤1000)(v:Value)(al:List Atr) :
  Calls Tryz.prog 39 #[.pointer (some ⟨R,0,none⟩),(.int .i64 4),.string ⟨name.toArray⟩,.string ⟨data.toArray⟩,v] w (MakTR B R S sv fv w 4 name data al):=by
 have HRp:=Lib.hid (fun wx (hb:Below w.heap.size w wx)=>repair_any data wx (by omega) (hT.below hb))
 have HM:=Lib.hid (MakT.tx (W:=w.heap.size) (S:=S) (name:=name) (data:=data) (al:=al) (kind:=4) (by decide))
 have hfx:=fix_len data
 have HTt:=Lib.hid h
 have hlv:S.live≤S.slots.length:=List.length_filter_le _ _
 have hlt:=h.blk.lt
 have HA:=Lib.hid (fun w9 (hb:Below w.heap.size w w9)=>add_any (h.below hb) hfr hfl (by omega) (mkN 4 [] (.slice none 0 0) [] (fix data)) ⟨none,0,rfl,.inl rfl⟩)
 clear h hT hfr hfl
 go_enter Tryz.func39,Tryz.ntmps39
 go_wp2_with fail
 have hx0:=Blk.new w (ndC (mkN 4 [] (.slice none 0 0) [] [])) 62
 have hb0:=(Below.refl w.heap.size w).alloc (Nat.le_refl _) (.cells (ndC (mkN 4 [] (.slice none 0 0) [] [])).toArray 62)
 refine(HRp.out _ hb0).mono ?_
 rintro e w2 ⟨rfl,hb2⟩
 have hb02:=bthen hb0 hb2
 have hx2:=Blk.below hx0 hb2
 simp only [ndC,mkN,strV] at hx2
 have c2:=hx2.cell 2
 have c3:=hx2.cell 3
 simp only [zzD,zzE] at c2 c3
 have f3:=hx2.free 3
 have HX3:=Lib.hid (hx2.set 3 (.string ⟨(fix data).toArray⟩))
 have HB3:=Lib.hid (hb02.setCell (p:=⟨w.heap.size,3,none⟩) (Nat.le_refl _) (.string ⟨(fix data).toArray⟩))
 clear hb0 hb2 hb02 hx0 hx2
 go_upto_region 16 with fail
 clear c2 c3 f3
 generalize w2.setCell ⟨w.heap.size,3,none⟩ (.string ⟨(fix data).toArray⟩)=w3 at *
 have hT3:=HTt.out.below HB3.out
 have HL:=Lib.hid (len_any hT3)
 have x2:=HX3.out.cell 2
 have x3:=HX3.out.cell 3
 simp only [List.set_cons_succ,List.set_cons_zero,zzD,zzE] at x2 x3
 have zR:=hT3.blk.free
 clear hT3
 have d1:decide ((20000:Int)≤(S.live:Int))=false:=by simp;omega
 go_wp2_with fail
 refine HL.out.mono ?_
 rintro e w5 ⟨rfl,hw⟩
 rw [hw]
 clear hw
 go_wp2_with fail
 refine(long_any ⟨(fix data).toArray⟩ (by rw [bsz];omega) _).mono ?_
 rintro e w6 ⟨rfl,hw⟩
 rw [hw,show decide (1048576 < (⟨(fix data).toArray⟩:ByteArray).size)=false by rw [bsz];simp;omega]
 clear hw
 go_wp2_with fail
 refine(containsFunc_nil _ _).mono ?_
 rintro e w7 ⟨rfl,hw⟩
 rw [hw]
 clear hw d1 x2 x3
 go_upto_region 18 with fail
 have hne:=stb_ne w3
 have hgl:=HX3.out.lt
 have xs:=fun(x:InS (StB w3))=>HX3.out.below x.h
 simp only [List.set_cons_succ,List.set_cons_zero] at xs
 have z0:=fun x=>(xs x).cell 0
 have z1:=fun x=>(xs x).cell 1
 have z2:=fun x=>(xs x).cell 2
 have z3:=fun x=>(xs x).cell 3
 have z4:=fun x=>(xs x).cell 4
 have z5:=fun x=>(xs x).cell 5
 have z6:=fun x=>(xs x).cell 6
 have z7:=fun x=>(xs x).cell 7
 have z8:=fun x=>(xs x).cell 8
 simp only [zzD,zzE] at z0 z1 z2 z3 z4 z5 z6 z7 z8
 clear xs
 refine reg_b (fun _=>undef) 4 (by kernel_rfl) (by kernel_rfl) ?_
 simp only [zzF,zzG,zzH,zzI]
 repeat (first
  | (refine m_held (by rfl) (by rfl) (fun K hK=>?_);go_big_quiet_step (fail);refine wpQuiet_nil ?_;refine hK.out _ ?_;clear hK K)
  | (refine m_skip (by rfl) ?_;simp only [Act.put,zzA,zzB,zzC]))
 refine m_nil ?_
 intro w8 h8
 clear z0 z1 z2 z3 z4 z5 z6 z7 z8 hne
 go_wp2_with fail
 have h8':Below w.heap.size w w8:=HB3.out.trans (h8.mono HB3.out.size)
 refine(HA.out _ h8').mono ?_
 rintro e w9 ⟨sv',fv',rfl,hT9,hC9,hsv,hfv⟩
 have H9:=Lib.hid hT9
 have HC:=Lib.hid hC9
 have HS:=Lib.hid hsv
 clear hT9 hC9 hsv
 go_wp2_with fail
 go_ret2
 refine⟨_,sv',fv',_,0,HM.out,rfl,H9.out,(Chg.of_below h8').trans HC.out (fun _ _ h=>h),?_,hfv⟩
 rcases HS.out with e | ⟨k,e,hk⟩
 ·exact .inl e
 ·exact .inr ⟨k,e,Nat.le_trans h8'.size hk⟩
end Go.Proofs.YtfelmdkeaacfeaaGreatDoor.W
end
