/- Texts joined: MkE TwM DropB Mdrp. -/
import Derived.Test.YtfelmdkeaacfeaaGreatDoorTM1
import Derived.Test.YtfelmdkeaacfeaaGreatDoorTM22
import Derived.Test.YtfelmdkeaacfeaaGreatDoorTM17
import Derived.Test.YtfelmdkeaacfeaaGreatDoorTM12
import Derived.Test.YtfelmdkeaacfeaaGreatDoorTM19
import Derived.Test.YtfelmdkeaacfeaaGreatDoorTM21
set_option maxRecDepth 100000
set_option maxHeartbeats 40000000
set_option linter.unusedVariables false
set_option linter.unusedSimpArgs false
section
namespace Go.Proofs.YtfelmdkeaacfeaaGreatDoor.W
open Go.RowKit
theorem etT:ET Tryz.prog 60 91 2 32:=ET.mk' (z:=.agg #[.string ⟨#[]⟩,.string ⟨#[]⟩]) Tryz.underlying60 (by kernel_rfl) rfl (by omega)
def tC (name:List UInt8)(av:Value):List Value:=[.int .i64 2,.string ⟨name.toArray⟩,av,.string ⟨#[]⟩,.int .i64 0,.int .i64 0,.int .i64 0,.int .i64 0,.int .i64 0]
def MkL (w:World)(r:Nat)(name:List UInt8)(al:List Atr)(iv:Value)(wr:World):Prop :=
 ∃(i:Nat) (sa:Option Addr) (sl' sc:Nat),i≤al.length∧sl'=i∧iv=.int .i64 (i:Int)∧Blk wr r (tC name (.slice sa sl' sc)) 62∧wr.ownsRow w.heap.size 91 2 (.slice sa sl' sc) sl' (attrC ((al.take i).map fun a=>(a.1,fix a.2)))∧Below w.heap.size w wr
theorem mkT_el {B R:Nat}{S:Tr}{sv fv:Value}{w:World}(h:TAt B R S sv fv w)(hT:Laid w)(hfr:∀i∈S.free,S.slots[i]? = some none)(hfl:S.free.length≤1000000)(hl:S.slots.length < 20000)(name data:List UInt8)(hn:name.length≤1000)(v:Value)(al:List Atr)(hv:Own w 91 2 v al.length (attrC al))(hal:al.length≤100)(has:∀a∈al,a.1.length≤1000∧a.2.length≤1000) :
  Calls Tryz.prog 39 #[.pointer (some ⟨R,0,none⟩),.int .i64 2,.string ⟨name.toArray⟩,.string ⟨data.toArray⟩,v] w (MakTR B R S sv fv w 2 name data al):=by
 have HRp:=Lib.hid (fun(a:Atr) (ha:a∈al) wx (hb:Below w.heap.size w wx)=>repair_any a.2 wx (by have:=(has a ha).2;omega) (hT.below hb))
 have HEl:=Lib.hid (fun wx (hb:Below w.heap.size w wx)=>elementName_b name (by omega) wx (hT.below hb))
 have HAt:=Lib.hid (fun wx (hb:Below w.heap.size w wx)=>attrs_any al hal has v wx (hT.below hb) (own_belowM hv hb))
 have HLn:=Lib.hid (show ∀a∈(al.map fun a=>(a.1,fix a.2)),a.2.length≤1048576 from fun a ha=>by
  obtain⟨b,hb,rfl⟩:=List.mem_map.1 ha
  have:=(has b hb).2
  have:=fix_len b.2
  show(fix b.2).length≤_
  omega)
 have HTt:=Lib.hid h
 have hlv:S.live≤S.slots.length:=List.length_filter_le _ _
 have hlt:=h.blk.lt
 have hbs:B≤w.heap.size:=by have:=h.base;omega
 have HA:=Lib.hid (fun w9 (hb:Below w.heap.size w w9) (n:Nd) (hn:AttrAt B w9 n.av n.attrs)=>add_any (h.below hb) hfr hfl (by omega) n hn)
 have HMa:=Lib.hid (fun(c:(elmB name && namesB al)=false)=>MakT.arg (W:=w.heap.size) (S:=S) (data:=data) (rfl:(2:Int)=2) c)
 have HMm:=Lib.hid (fun(c:(elmB name && namesB al)=true) (h2:64 < al.length)=>MakT.many (W:=w.heap.size) (S:=S) (data:=data) (rfl:(2:Int)=2) c h2)
 have HMe:=Lib.hid (fun(av:Value) (c:(elmB name && namesB al)=true) (h2:al.length≤64) (hf:∀k,av.ownBlock=some k→w.heap.size≤k)=>MakT.el (S:=S) (data:=data) av (rfl:(2:Int)=2) c h2 hf)
 obtain⟨va0,vc0,rfl⟩:=own_shape hv
 have HVc:=Lib.hid (fun(j:Nat) (y:Atr) (hy:al[j]? = some y) wx (hb:Below w.heap.size w wx)=>(show ∃ga,va0=some ⟨ga,0,none⟩∧ga < w.heap.size∧wx.cell? ⟨ga,j*2,none⟩=some (.string ⟨y.1.toArray⟩)∧wx.cell? ⟨ga,j*2+1,none⟩=some (.string ⟨y.2.toArray⟩) from by
  have hl:=(List.getElem?_eq_some_iff.1 hy).1
  obtain⟨ga,hga⟩:∃g,va0=some ⟨g,0,none⟩:=by
   rcases hv.2 with ⟨e,e2⟩ | ⟨g,cap,cur,e,_⟩
   ·omega
   ·simp only [Value.slice.injEq] at e;exact⟨g,e.1⟩
  subst hga
  have ho:=own_belowM hv hb
  have h1:=own_news ho (2*j) _ (attrC_at al j y hy).1
  have h2:=own_news ho (2*j+1) _ (attrC_at al j y hy).2
  rw [Go.WideShapes.add_plain,Nat.zero_add] at h1 h2
  exact⟨ga,rfl,own_lt hv rfl,by rw [Nat.mul_comm];exact h1,by rw [Nat.mul_comm j];exact h2⟩))
 clear h hT hfr hfl hv has
 go_enter Tryz.func39,Tryz.ntmps39
 go_wp2_with fail
 have k1:=Blk.new w (tC [] (.slice none 0 0)) 62
 have hb1:=(Below.refl w.heap.size w).alloc (Nat.le_refl _) (.cells (tC [] (.slice none 0 0)).toArray 62)
 refine(HEl.out _ hb1).mono ?_
 rintro e w2 ⟨rfl,hb2⟩
 have HB2:=Lib.hid (bthen hb1 hb2)
 have HK2:=Lib.hid (Blk.below k1 hb2)
 clear k1 hb1 hb2
 cases hel:elmB name
 ·go_wp2_with fail
  go_ret2
  exact MakTR.same HTt.out HB2.out (HMa.out (by rw [hel];rfl))
 have HEx:=Lib.hid hel
 clear hel HEl
 go_wp2_with fail
 refine(HAt.out _ HB2.out).mono ?_
 rintro e w3 ⟨rfl,hb3⟩
 have HB3:=Lib.hid (bthen HB2.out hb3)
 have HK3:=Lib.hid (HK2.out.below hb3)
 clear hb3 HB2 HK2
 cases hnm:namesB al
 ·go_wp2_with fail
  go_ret2
  exact MakTR.same HTt.out HB3.out (HMa.out (by rw [hnm,Bool.and_false]))
 have HYes:=Lib.hid (show(elmB name && namesB al)=true by rw [HEx.out,hnm];rfl)
 clear hnm HAt HMa
 have c1:=HK3.out.cell 1
 have f1:=HK3.out.free 1
 simp only [tC,zzD,zzE] at c1
 have HK4:=Lib.hid (show Blk (w3.setCell ⟨w.heap.size,1,none⟩ (.string ⟨name.toArray⟩)) w.heap.size (tC name (.slice none 0 0)) 62 from HK3.out.set 1 (.string ⟨name.toArray⟩))
 have HB4:=Lib.hid (HB3.out.setCell (p:=⟨w.heap.size,1,none⟩) (Nat.le_refl _) (.string ⟨name.toArray⟩))
 go_upto_region 8 with fail
 clear c1 f1 HK3 HB3
 generalize w3.setCell ⟨w.heap.size,1,none⟩ (.string ⟨name.toArray⟩)=w4 at *
 go_wp2_with fail
 go_loopw [32] (fun iv wr=>MkL w w.heap.size name al iv wr) (fun iv _=>al.length - intN iv)
 case atStart=>exact⟨0,none,0,0,by omega,rfl,rfl,HK4.out,World.ownsRow_nil _ _ _ _,HB4.out⟩
 case round =>
  obtain⟨i,sa,sl',sc,hi,hsl,rfl,hkr,hown,hbr⟩:=hrel
  have HKr:=Lib.hid hkr
  have HOr:=Lib.hid hown
  have HBr:=Lib.hid hbr
  have HSl:=Lib.hid hsl
  have hsl2:sl'≤100:=by omega
  clear hkr hown hbr hsl HB4 HK4
  by_cases hil:i < al.length
  ·obtain⟨y,hy⟩:∃y,al[i]? = some y:=⟨_,List.getElem?_eq_getElem hil⟩
   have hym:=List.mem_of_getElem? hy
   obtain⟨ga,rfl,hga,cn,cv⟩:=HVc.out i y hy _ HBr.out
   have HY:=Lib.hid hy
   have HYm:=Lib.hid hym
   have hil2:(i:Int) < (al.length:Int):=by omega
   clear hy hym
   have hW1:Below wr.heap.size wr (wr.alloc (.cells #[.string ⟨y.1.toArray⟩,.string ⟨y.2.toArray⟩] 91)):=(Below.refl _ _).alloc (Nat.le_refl _) _
   have kb:=Blk.new wr [.string ⟨y.1.toArray⟩,.string ⟨y.2.toArray⟩] 91
   have kr1:=HKr.out.below hW1
   have hsz:=HBr.out.size
   have ho1:=own_keepB HOr.out hW1
   have hb1:=bthen HBr.out hW1
   have hbr:w.heap.size≠wr.heap.size:=by have:=HKr.out.lt;omega
   go_upto_region 11 with fail
   generalize wr.alloc (.cells #[.string ⟨y.1.toArray⟩,.string ⟨y.2.toArray⟩] 91)=W1 at *
   have q2:=kr1.cell 2
   have qf:=kr1.free 2
   have b0:=kb.cell 0
   have b1:=kb.cell 1
   simp only [tC,zzD,zzE] at q2 b0 b1
   have hrl:=kr1.lt
   have hbl:=kb.lt
   have HKb:=Lib.hid kb
   have HK1:=Lib.hid kr1
   have HO1:=Lib.hid ho1
   have HB1:=Lib.hid hb1
   clear kb kr1 ho1 hb1 hW1 cn cv HKr HOr HBr
   have hne:∀b,(Value.slice sa sl' sc).ownBlock=some b→b≠w.heap.size:=fun b hb e=>by
    obtain⟨cur,hcur⟩:=own_blk (show Own W1 _ _ _ _ _ from own_low HO1.out (Nat.zero_le _)) hb
    subst e
    exact blk_ne hcur HK1.out (by decide) rfl
   go_region_law (first
    | (go_simp;go_at_call 63;refine(HRp.out y HYm.out _ HB1.out.drew).mono ?_;rintro e w6 ⟨rfl,hb6⟩;
        have hB6:Below W1.heap.size W1 w6:=((Below.refl _ W1).drew).trans (hb6.mono (Nat.le_refl _));
        have q26:w6.cell? ⟨w.heap.size,2,none⟩=some (.slice sa sl' sc):=(HK1.out.below hB6).cell 2;have qf6:w6.frozen? ⟨w.heap.size,2,none⟩=false:=(HK1.out.below hB6).free 2;
        have b06:w6.cell? ⟨wr.heap.size,0,none⟩=some (.string ⟨y.1.toArray⟩):=(HKb.out.below hB6).cell 0;have b16:w6.cell? ⟨wr.heap.size,1,none⟩=some (.string ⟨y.2.toArray⟩):=(HKb.out.below hB6).cell 1;
        have hrl6:=(HK1.out.below hB6).lt;have hbl6:=(HKb.out.below hB6).lt;have HB6:=Lib.hid hB6;clear hb6 hB6)
    | (refine step_append_B etT (own_keepB HO1.out (HB6.out.alloc HB6.out.size _)) (by have:=HB1.out.size;have:=HB6.out.size;simp;omega) (own_at (n:=1) (size:=2) (Blk.new w6 [.string ⟨y.1.toArray⟩,.string ⟨(fix y.2).toArray⟩] 91) rfl (by omega)) (attrC_one' _ _) (by omega) (by omega) (by rfl) _ _ (by rfl) (by rfl) (by rfl) ?_;intro v' w7 ho hgr hvb;
        obtain⟨va,vc,rfl⟩:=own_shapeB ho;have kr7:=((HK1.out.below HB6.out).alloc (.cells #[.string ⟨y.1.toArray⟩,.string ⟨(fix y.2).toArray⟩] 91)).kept (hgr.block w.heap.size (by have:=hrl6;simp;omega) (fun e=>hne _ e.symm rfl));have e2:w7.cell? ⟨w.heap.size,2,none⟩=some (.slice sa sl' sc):=kr7.cell 2;have ef:w7.frozen? ⟨w.heap.size,2,none⟩=false:=kr7.free 2;
        have HK7:=Lib.hid kr7;have HO7:=Lib.hid ho;have HG7:=Lib.hid hgr;clear ho hgr hvb kr7))
   all_goals
    have hb6w:Below w.heap.size w w6:=HB1.out.trans (HB6.out.mono HB1.out.size)
    have hb7:Below w.heap.size w w7:=(hb6w.alloc hb6w.size _).grown HG7.out (by have:=hb6w.size;simp;omega) (fun b hb=>(HO1.out.lt b hb).1)
    have hk8:=HK7.out.set 2 (.slice va (sl'+1) vc)
    have ho8:=own_kB HO7.out (w':=w7.setCell ⟨w.heap.size,2,none⟩ (.slice va (sl'+1) vc)) (fun b hb=>Below.heap_setCell _ _ _ _ (fun e=>by
     obtain⟨cur,hcur⟩:=own_blk (show Own w7 _ _ _ _ _ from own_low HO7.out (Nat.zero_le _)) hb
     rw [show b=w.heap.size from e] at hcur
     exact blk_ne hcur HK7.out (by decide) rfl))
    have hb8:=hb7.setCell (p:=⟨w.heap.size,2,none⟩) (Nat.le_refl w.heap.size) (.slice va (sl'+1) vc)
    have HK8:=Lib.hid hk8
    have HO8:=Lib.hid ho8
    have HB8:=Lib.hid hb8
    have HM:=Lib.hid (attrC_map al i y HY.out (fun a=>(a.1,fix a.2)))
    clear hb6w hb7 hk8 ho8 hb8 e2 ef
    go_wp2_with fail
    exact⟨⟨i+1,va,sl'+1,vc,by omega,by have:=HSl.out;omega,by first | rfl | simp,HK8.out,by rw [HM.out];exact HO8.out,HB8.out⟩,by simp only [intN];omega⟩
  ·obtain rfl:i=al.length:=by omega
   rw [List.take_length] at HOr
   have hsl3:=HSl.out
   subst hsl3
   have hat:AttrAt B wr (.slice sa al.length sc) (al.map fun a=>(a.1,fix a.2)):=attr_of_own (by rw [List.length_map];exact HOr.out) hbs
   have HCn:=Lib.hid (contains_lng hat (by rw [List.length_map];omega) HLn.out)
   have HAa:=Lib.hid (fun w9 (hb:Below wr.heap.size wr w9)=>HA.out w9 (bthen HBr.out hb) (mkN 2 name (.slice sa al.length sc) (al.map fun a=>(a.1,fix a.2)) []) (attr_of_own (B':=w.heap.size) (by simp only [mkN];rw [List.length_map];exact own_keepB HOr.out hb) hbs))
   have HMo:=Lib.hid (fun h2=>HMe.out (.slice sa al.length sc) HYes.out h2 (fun k hk=>(HOr.out.lt k hk).1))
   clear hat
   have hT3:=HTt.out.below HBr.out
   have HL:=Lib.hid (len_any hT3)
   have x2:=HKr.out.cell 2
   have x3:=HKr.out.cell 3
   simp only [tC,zzD,zzE] at x2 x3
   have zR:=hT3.blk.free
   clear hT3
   have d1:decide ((20000:Int)≤(S.live:Int))=false:=by simp;omega
   go_wp2_with fail
   refine HL.out.mono ?_
   rintro e w5 ⟨rfl,hw⟩
   rw [hw]
   clear hw
   by_cases h64:64 < al.length
   ·have HMx:=Lib.hid (HMm.out HYes.out h64)
    have d2:decide ((64:Int) < (al.length:Int))=true:=by simp;omega
    clear HMm HMe HMo h64
    go_wp2_with fail
    go_ret2
    exact MakTR.same HTt.out HBr.out HMx.out
   have HMx:=Lib.hid (HMo.out (by omega))
   have d2:decide ((64:Int) < (al.length:Int))=false:=by simp;omega
   clear HMm HMe HMo h64
   go_wp2_with fail
   refine(long_any ⟨#[]⟩ (by show 0≤_;omega) _).mono ?_
   rintro e w6 ⟨rfl,hw⟩
   rw [hw,show decide (1048576 < (⟨#[]⟩:ByteArray).size)=false from rfl]
   clear hw
   go_wp2_with fail
   refine HCn.out.mono ?_
   rintro e w7 ⟨rfl,hw7⟩
   have HK7:=Lib.hid (HKr.out.below hw7)
   have HW7:=Lib.hid hw7
   clear d1 d2 x2 x3 hw7 HCn
   go_upto_region 18 with fail
   have hne:=stb_ne w7
   have hgl:=HK7.out.lt
   have xs:=fun(x:InS (StB w7))=>HK7.out.below x.h
   simp only [tC] at xs
   have z0:=fun x=>(xs x).cell 0
   have z1:=fun x=>(xs x).cell 1
   have z2:=fun x=>(xs x).cell 2
   have z3:=fun x=>(xs x).cell 3
   have z4:=fun x=>(xs x).cell 4
   have z5:=fun x=>(xs x).cell 5
   have z6:=fun x=>(xs x).cell 6
   have z7:=fun x=>(xs x).cell 7
   have z8:=fun x=>(xs x).cell 8
   simp only [zzD,zzE] at z0 z1 z2 z3 z4 z5 z6 z7 z8
   clear xs
   refine reg_b (fun _=>undef) 4 (by kernel_rfl) (by kernel_rfl) ?_
   simp only [zzF,zzG,zzH,zzI]
   repeat (first
    | (refine m_held (by rfl) (by rfl) (fun K hK=>?_);go_big_quiet_step (fail);refine wpQuiet_nil ?_;refine hK.out _ ?_;clear hK K)
    | (refine m_skip (by rfl) ?_;simp only [Act.put,zzA,zzB,zzC]))
   refine m_nil ?_
   intro w8 h8
   clear z0 z1 z2 z3 z4 z5 z6 z7 z8 hne
   go_wp2_with fail
   have h8':Below wr.heap.size wr w8:=bthen HW7.out h8
   refine(HAa.out _ h8').mono ?_
   rintro e w9 ⟨sv',fv',rfl,hT9,hC9,hsv,hfv⟩
   have H9:=Lib.hid hT9
   have HC:=Lib.hid hC9
   have HS:=Lib.hid hsv
   have HV9:=Lib.hid hfv
   have H8:=Lib.hid (bthen HBr.out h8')
   clear hT9 hC9 hsv hfv h8' h8
   go_wp2_with fail
   go_ret2
   refine⟨_,sv',fv',_,0,HMx.out,rfl,H9.out,(Chg.of_below H8.out).trans HC.out (fun _ _ h=>h),?_,HV9.out⟩
   rcases HS.out with e | ⟨k,e,hk⟩
   ·exact .inl e
   ·exact .inr ⟨k,e,Nat.le_trans H8.out.size hk⟩
theorem fix_valid (l:List UInt8):Lib.validD (fix l)=true:=by
 rw [fix_rfix]
 exact(rfix_iff _).2 (rfix_rfix l)
theorem namesB_parts {al:List Atr}(h:namesB al=true):(∀a∈al,headB a.1=true)∧(al.map (·.1)).Nodup:=by
 unfold namesB at h
 rw [Bool.and_eq_true,List.all_eq_true] at h
 exact⟨h.1,of_decide_eq_true h.2⟩
theorem map_fix (al:List Atr):(al.map fun a=>(a.1,fix a.2))=al.map fun a=>(a.1,rfix a.2):=List.map_congr_left fun a _=>by rw [fix_rfix]
theorem mk_el_ok (c:Nat){name:List UInt8}{al:List Atr}(av:Value)(h:(elmB name && namesB al)=true)(hn:name.length≤200)(hal:al.length≤64)(ha:∀a∈al,a.1.length≤200∧a.2.length≤50):NdOk c (mkN 2 name av (al.map fun a=>(a.1,fix a.2)) []):=by
 rw [Bool.and_eq_true] at h
 obtain⟨h1,h2⟩:=namesB_parts h.2
 refine⟨.inr (.inl rfl),fun _=>⟨rfl,h.1⟩,fun e=>(by rcases e with e | e <;> cases e),fun e=>(by cases e),fun a hm=>?_,?_,(by simpa [mkN] using hal),(by simp [mkN]),hn⟩
 ·obtain⟨b,hb,rfl⟩:=List.mem_map.1 hm
  have:=fix_len b.2
  have:=ha b hb
  exact⟨h1 b hb,fix_valid _,this.1,by show(fix b.2).length≤200;omega⟩
 ·have e:((mkN 2 name av (al.map fun a=>(a.1,fix a.2)) []).attrs.map (·.1))=al.map (·.1):=by simp [mkN,List.map_map,Function.comp_def]
  rw [e]
  exact h2
theorem mk_tx_ok (c:Nat){kind:Int}{data:List UInt8}(h:kind=3∨kind=4)(hd:data.length≤50):NdOk c (mkN kind [] (.slice none 0 0) [] (fix data)):=by
 have:=fix_len data
 refine⟨.inr (.inr h),fun e=>?_,fun _=>⟨rfl,rfl,fix_valid _⟩,fun e=>?_,fun a hm=>(by cases hm),List.nodup_nil,(by simp [mkN]),(by show(fix data).length≤200*(c+1);omega),(by simp [mkN])⟩
 ·have e:kind=2:=e;omega
 ·have e:kind=1:=e;omega
theorem Tw.make {ex:Prop}{E:Nat→Prop}{c W0:Nat}{S S':Tr}{K:Nat→List Nat}{d:Nat→Nat}{M M':List MN}{σ : Nat→Nat}(W:Tw ex E c S K M σ)(T:TrOk c S K d){kind h en en':Int}{name data:List UInt8}{al:List Atr}
  (hm:MMak M kind name data al M' en)(ht:MakT W0 S kind name data al S' h en')(hk:kind=2∨kind=3∨kind=4)(hn:name.length≤200)(hd:data.length≤50)(hal:al.length≤2)(ha:∀a∈al,a.1.length≤200∧a.2.length≤50)
  (hE:¬E S.addI)(hf:M.length < 10000)(hl:S.slots.length < 1000000) :
  en'=en∧((en=1∧S'=S∧M'=M∧h=0)∨(en=0∧h=S.hd S.addI∧M'.length=M.length+1∧TrOk c S' K (dAdd d S.addI)∧Tw ex E c S' K M' (sNew M σ S.addI))):=by
 cases ht with
 | kind h2 h3 h4=>rcases hk with e | e | e <;> contradiction
 | arg e hb =>
  subst e
  cases hm with
  | arg _ _=>exact⟨rfl,.inl ⟨rfl,rfl,rfl,rfl⟩⟩
  | el _ hb2=>rw [hb] at hb2;cases hb2
  | tx e=>exact absurd rfl e
 | many e hb h2=>omega
 | el av e hb h2 hfr =>
  subst e
  cases hm with
  | arg _ hb2=>rw [hb] at hb2;cases hb2
  | el _ _ =>
   have k:=added_of T.fr T.frnd (mkN 2 name av (al.map fun a=>(a.1,fix a.2)) [])
   refine⟨rfl,.inr ⟨rfl,rfl,by simp,T.added k rfl rfl rfl rfl rfl hl (mk_el_ok c av hb hn h2 ha) (by show(2:Int)≠1;omega),?_⟩⟩
   exact W.added T.lk k hE (m:=newMN 2 name (al.map fun(a:Atr)=>((a.1,rfix a.2):Atr)) []) rfl rfl rfl (map_fix al) rfl rfl rfl (by simp [newMN];omega) hf
  | tx e=>exact absurd rfl e
 | tx e =>
  cases hm with
  | arg e2 _=>omega
  | el e2 _=>omega
  | tx e2 =>
   have k:=added_of T.fr T.frnd (mkN kind [] (.slice none 0 0) [] (fix data))
   refine⟨rfl,.inr ⟨rfl,rfl,by simp,T.added k rfl rfl rfl rfl rfl hl (mk_tx_ok c e hd) (by show kind≠1;omega),?_⟩⟩
   exact W.added T.lk k hE (m:=newMN kind [] [] (rfix data)) rfl rfl (fix_rfix data) rfl rfl rfl rfl (by simp [newMN]) hf
inductive DrpX (W:Nat) (S:Tr) (i:Nat) (n:Nd) (name:List UInt8):Tr→Value→Int→List (List Value)→Prop
 | kind (h:n.kind≠2):DrpX W S i n name S (.slice none 0 0) 10 []
 | no (hk:n.kind=2) (h:nmOf n.attrs name=-1):DrpX W S i n name S (.slice none 0 0) 0 []
 | cut (v av:Value) (k:Nat) (y:Atr) (hk:n.kind=2) (h1:nmOf n.attrs name=(k:Int)) (h2:n.attrs[k]? = some y) (hfr:∀k,av.ownBlock=some k→W≤k) :
   DrpX W S i n name (S.put i { n with av:=av,attrs:=n.attrs.eraseIdx k }) v 0 [recC 3 (S.hd i) 0 0 0 0 name y.2 true 0 0]
theorem dropAttr_x {B R g cap:Nat}{S:Tr}{fv:Value}{w:World}{K d}(h:TAt B R S (.slice (some ⟨g,0,none⟩) S.slots.length cap) fv w)(hL:Lk S K d)(i:Nat)(n:Nd)(hi:S.at i=some n)(hk:n.kind=2)(hl:n.attrs.length≤64)
  (name:List UInt8) :
  Calls Tryz.prog 17 #[.pointer (some ⟨R,0,none⟩),.int .i64 (S.hd i),strV name] w fun e w'=>∃S' v er l,DrpX w.heap.size S i n name S' v er l∧e=.returned (.tuple #[v,.int .i64 er]) ∧
   RcAt w' w.heap.size v l∧TAt B R S' (.slice (some ⟨g,0,none⟩) S'.slots.length cap) fv w'∧Chg (fun k=>k=g) w w':=by
 have HE:=Lib.hid (element_el h hL i n hi hk)
 have HM:=Lib.hid (fun wx (hb:Below w.heap.size w wx)=>named_any (h.below hb) i n hi name (by omega))
 have HTx:=Lib.hid h
 have Hi:=Lib.hid hi
 clear h
 unfold strV at *
 have H2:=Lib.hid (fun wx (hb:Below w.heap.size w wx)=>nd_cell (HTx.out.below hb) Hi.out 2 (by omega))
 simp only [ndC,zzD,zzE] at H2
 obtain⟨va,vc,hva,hvx⟩:=HTx.out.attrs i n (at_slot hi)
 rw [hva] at H2
 have HVx:=Lib.hid hvx
 clear hi hL hvx
 have hcases:=nmOf_cases n.attrs name
 have hnr:∃r,r=nmOf n.attrs name:=⟨_,rfl⟩
 obtain⟨r,hnr⟩:=hnr
 rw [← hnr] at hcases HM
 have HNr:=Lib.hid hnr
 clear hnr
 go_enter Tryz.func17,Tryz.ntmps17
 go_wp2_with fail
 refine HE.out.mono ?_
 rintro e w1 ⟨rfl,hb1⟩
 go_wp2_with fail
 refine(HM.out _ hb1).mono ?_
 rintro e w4 ⟨rfl,hb4⟩
 have hB4:=bthen hb1 hb4
 clear HE HM hb1 hb4
 have c2:=H2.out _ hB4
 rcases hcases with rfl | ⟨k,y,rfl,hy⟩
 ·go_wp2_with fail
  go_ret2
  exact⟨S,_,0,[],(.no hk HNr.out.symm),rfl,World.ownsRow_nil _ _ _ _,HTx.out.below hB4,Chg.of_below hB4⟩
 ·have d1:decide ((k:Int) < 0)=false:=by simp
  have hkl:=(List.getElem?_eq_some_iff.1 hy).1
  obtain⟨ga,hga⟩:∃ga,va=some ⟨ga,0,none⟩:=by
   rcases HVx.out with e | ⟨ga,cur,e,_⟩
   ·rw [e] at hkl;simp at hkl
   ·exact⟨ga,e⟩
  subst hga
  have q1:w4.cell? ⟨ga,k*2+1,none⟩=some (.string ⟨y.2.toArray⟩):=by
   have h2:=HTx.out.below hB4
   have h3:=h2.attrs i n (at_slot Hi.out)
   rw [hva] at h3
   have:=attr_cells h3 (2*k+1) _ (attrC_at n.attrs k y hy).2
   rw [Go.WideShapes.add_plain,Nat.zero_add] at this
   rw [show k*2+1=2*k+1 by omega]
   exact this
  go_upto_region 8 with fail
  clear q1
  have k6:Blk (w4.alloc (.cells #[.int .i64 3,.int .i64 (S.hd i),.int .i64 0,.int .i64 0,.int .i64 0,.int .i64 0,.string ⟨name.toArray⟩,.string ⟨y.2.toArray⟩,.bool true,.int .i64 0,.int .i64 0] 41)) w4.heap.size [.int .i64 3,.int .i64 (S.hd i),.int .i64 0,.int .i64 0,.int .i64 0,.int .i64 0,.string ⟨name.toArray⟩,.string ⟨y.2.toArray⟩,.bool true,.int .i64 0,.int .i64 0] 41:=Blk.new w4 _ _
  have hB6:Below w.heap.size w (w4.alloc (.cells #[.int .i64 3,.int .i64 (S.hd i),.int .i64 0,.int .i64 0,.int .i64 0,.int .i64 0,.string ⟨name.toArray⟩,.string ⟨y.2.toArray⟩,.bool true,.int .i64 0,.int .i64 0] 41)):=hB4.alloc hB4.size _
  have hr6:w.heap.size≤w4.heap.size:=hB4.size
  generalize hrb:w4.heap.size=rb at *
  generalize w4.alloc (.cells #[.int .i64 3,.int .i64 (S.hd i),.int .i64 0,.int .i64 0,.int .i64 0,.int .i64 0,.string ⟨name.toArray⟩,.string ⟨y.2.toArray⟩,.bool true,.int .i64 0,.int .i64 0] 41)=w6 at *
  have hT6:=HTx.out.below hB6
  have c6:=H2.out _ hB6
  have HCl:=Lib.hid (clone_attr (hva ▸ hT6.attrs i n (at_slot Hi.out)) (by omega))
  have HT6:=Lib.hid hT6
  have HK6:=Lib.hid k6
  clear hT6 k6 c2
  go_wp2_with fail
  refine HCl.out.mono ?_
  rintro e w7 ⟨v1,rfl,hown7,hb7⟩
  obtain⟨g1,cap1,rfl⟩:∃g1 cap1,v1=.slice (some ⟨g1,0,none⟩) n.attrs.length cap1:=by
   rcases hown7.2 with ⟨_,e⟩ | ⟨g1,cap',cur,e,_⟩
   ·omega
   ·exact⟨g1,_,e⟩
  have HD:=Lib.hid (delete_attr (rest:=[]) (all_of_own hown7 hb7.size) k hkl (by omega))
  clear HCl c6 hown7
  go_wp2_with fail
  refine HD.out.mono ?_
  rintro e w8 ⟨rfl,hA8⟩
  have hb8:Below w6.heap.size w7 w8:=hA8.below
  have hb68:=hb7.trans hb8
  have hB8:=bthen hB6 hb68
  have hT8:=HTx.out.below hB8
  have c8:=H2.out _ hB8
  have z8:=nd_free hT8 (i*10+1+2)
  have HO8:=Lib.hid (all_own hA8)
  have HT8:=Lib.hid hT8
  have HK8:=Lib.hid (HK6.out.below hb68)
  clear hT8 HD hA8
  go_upto_region 9 with fail
  have hrow10:=own_setB HT8.out.slots (i*10+1+2) (.slice (some ⟨g1,0,none⟩) (n.attrs.length - 1) cap1)
  have hch10:Chg (fun k=>k=g) w (w8.setCell ⟨g,i*10+1+2,none⟩ (.slice (some ⟨g1,0,none⟩) (n.attrs.length - 1) cap1)):=(Chg.of_below (F:=fun k=>k=g) hB8).setCell ⟨g,i*10+1+2,none⟩ (fun _=>(rfl:g=g)) _
  have hg0:=(HTx.out.slots.lt g rfl).2
  have hg1:=(HO8.out.lt g1 rfl).1
  have hsz6:=hB6.size
  have hgg1:g1≠g:=by omega
  have hown10:=own_kB (w':=w8.setCell ⟨g,i*10+1+2,none⟩ (.slice (some ⟨g1,0,none⟩) (n.attrs.length - 1) cap1)) HO8.out (fun g' hg'=>Below.heap_setCell _ _ _ _ (by cases hg';exact hgg1))
  have hfr:∀k',(Value.slice (some ⟨g1,0,none⟩) (n.attrs.length - 1) cap1).ownBlock=some k'→w.heap.size≤k':=fun k' hk'=>Nat.le_trans hB6.size (HO8.out.lt k' hk').1
  have hk10:=HK8.out.setOther ⟨g,i*10+1+2,none⟩ (by show rb≠g;omega) (.slice (some ⟨g1,0,none⟩) (n.attrs.length - 1) cap1)
  have hs10:w6.heap.size≤(w8.setCell ⟨g,i*10+1+2,none⟩ (.slice (some ⟨g1,0,none⟩) (n.attrs.length - 1) cap1)).heap.size:=by simp [World.setCell];exact hb68.size
  have hle:(n.attrs.eraseIdx k).length=n.attrs.length - 1:=by rw [List.length_eraseIdx,if_pos hkl]
  have HT10:=Lib.hid (HTx.out.setAv Hi.out (.slice (some ⟨g1,0,none⟩) (n.attrs.length - 1) cap1) (n.attrs.eraseIdx k) hch10 hrow10 (attr_of_own (B:=B) (by rw [hle];exact hown10) (by have:=HTx.out.base;have:=HTx.out.blk.lt;omega)))
  have HCh10:=Lib.hid hch10
  clear hrow10 hch10 hown10 HT8 HO8 HK8 c8 z8
  generalize w8.setCell ⟨g,i*10+1+2,none⟩ (.slice (some ⟨g1,0,none⟩) (n.attrs.length - 1) cap1)=w10 at *
  have b0:=hk10.cell 0
  have b1:=hk10.cell 1
  have b2:=hk10.cell 2
  have b3:=hk10.cell 3
  have b4:=hk10.cell 4
  have b5:=hk10.cell 5
  have b6:=hk10.cell 6
  have b7:=hk10.cell 7
  have b8:=hk10.cell 8
  have b9:=hk10.cell 9
  have b10:=hk10.cell 10
  simp only [zzD,zzE] at b0 b1 b2 b3 b4 b5 b6 b7 b8 b9 b10
  go_wp2_with fail
  go_ret2
  refine⟨_,_,0,_,(.cut _ (.slice (some ⟨g1,0,none⟩) (n.attrs.length - 1) cap1) k y hk HNr.out.symm hy hfr),rfl,?_,HT10.out.below ((Below.refl _ w10).alloc (Nat.le_refl _) _),HCh10.out.alloc _⟩
  exact rc_new w10 _ (Nat.le_trans hB6.size hs10) rfl
theorem dropAttr_any {B R g cap:Nat}{S:Tr}{fv:Value}{w:World}{K d}(h:TAt B R S (.slice (some ⟨g,0,none⟩) S.slots.length cap) fv w)(hL:Lk S K d)(i:Nat)(n:Nd)(hi:S.at i=some n)(hl:n.attrs.length≤64)
  (name:List UInt8) :
  Calls Tryz.prog 17 #[.pointer (some ⟨R,0,none⟩),.int .i64 (S.hd i),strV name] w fun e w'=>∃S' v er l,DrpX w.heap.size S i n name S' v er l∧e=.returned (.tuple #[v,.int .i64 er]) ∧
   RcAt w' w.heap.size v l∧TAt B R S' (.slice (some ⟨g,0,none⟩) S'.slots.length cap) fv w'∧Chg (fun k=>k=g) w w':=by
 by_cases hk:n.kind=2
 ·exact dropAttr_x h hL i n hi hk hl name
 ·refine(dropAttr_no h hL i n hi hk _).mono ?_
  rintro e w1 ⟨rfl,hb⟩
  exact⟨S,_,10,[],.kind hk,rfl,World.ownsRow_nil _ _ _ _,h.below hb,Chg.of_below hb⟩
inductive MDrp (M:List MN) (h:Nat) (mh:MN) (name:List UInt8):List MN→List Rc→Int→Prop
 | kind (hk:mh.kind≠2):MDrp M h mh name M [] 10
 | no (hk:mh.kind=2) (h1:nmOf mh.attrs name=-1):MDrp M h mh name M [] 0
 | cut (k:Nat) (y:Atr) (hk:mh.kind=2) (h1:nmOf mh.attrs name=(k:Int)) (h2:mh.attrs[k]? = some y):MDrp M h mh name (M.set h { mh with attrs:=mh.attrs.eraseIdx k }) [rcA h name y.2 true] 0
theorem attrC_sub {l:List Atr}{a b:Nat}{t:Nat}{u:Value}(h:(attrC ((l.take b).drop a))[t]? = some u):(attrC l)[2*a+t]? = some u:=by
 rw [← attrC_drop,← attrC_take,List.getElem?_drop,List.getElem?_take] at h
 split at h
 ·exact h
 ·cases h
theorem own_cast {w:World}{e:TypeId}{size n m:Nat}{v:Value}{xs:List Value}(h:Own w e size v n xs)(hn:n=m):Own w e size v m xs:=hn ▸ h
theorem mdropAttr_any {Q g cap:Nat}{X:List MX}{w:World}(h:MdAt Q (.slice (some ⟨g,0,none⟩) X.length cap) X w)(hf:X.length≤100000){c:Nat}{mc:MN}(hc:lv (ms X) c=some mc)(hl:mc.attrs.length≤10000)(name:List UInt8) :
  Calls Tryz.prog 46 #[.pointer (some ⟨Q,0,none⟩),.int .i64 (c:Int),strV name] w (MOut Q g cap X w (MDrp (ms X) c mc name)):=by
 have c0:=h.W.ptr
 obtain⟨ck,_,_⟩:=h.W.lvc hc
 have lc:=lv_lt hc
 obtain⟨x,hx,rfl,hg⟩:=lv_some hc
 have H0:=Lib.hid h
 have HX:=Lib.hid hx
 have HFd:=Lib.hid (mfind_any h.W hf c hx (by omega) name)
 have HQ:=Lib.hid (fun wx (hb:Below w.heap.size w wx)=>(h.below hb).W.ptr)
 obtain⟨aa,ac,hav⟩:=h.W.ashape (List.mem_of_getElem? hx)
 have HC2:=Lib.hid (fun wx (hb:Below w.heap.size w wx)=>(h.below hb).W.cell hx 2 (by omega))
 simp only [mxC,zzD,zzE,hav] at HC2
 have HAV:=Lib.hid hav
 clear h hc hx hav
 unfold strV at *
 by_cases hk:x.m.kind=2
 rotate_left
 ·have hb:(x.m.kind != 2)=true:=by simpa using hk
  go_enter Tryz.func46,Tryz.ntmps46
  go_wp2_with fail
  go_ret2
  exact⟨X,_,[],10,.kind hk,rfl,World.ownsRow_nil _ _ _ _,MdOut.refl H0.out (Below.refl _ _)⟩
 have HK:=Lib.hid hk
 rw [hk] at ck
 clear hk
 have HMno:=Lib.hid (fun(c2:nmOf x.m.attrs name=-1)=>MDrp.no (M:=ms X) (h:=c) (mh:=x.m) HK.out c2)
 have HMcut:=Lib.hid (fun(k:Nat) (y:Atr) (c2:nmOf x.m.attrs name=(k:Int)) (c3:x.m.attrs[k]? = some y)=>MDrp.cut (M:=ms X) (h:=c) (mh:=x.m) k y HK.out c2 c3)
 have hcases:=nmOf_cases x.m.attrs name
 generalize MDrp (ms X) c x.m name=RX at *
 generalize nmOf x.m.attrs name=r at *
 go_enter Tryz.func46,Tryz.ntmps46
 go_wp2_with fail
 refine HFd.out.mono ?_
 rintro e wz ⟨rfl,hw⟩
 subst wz
 clear HFd
 rcases hcases with rfl | ⟨k,y,rfl,hy⟩
 ·go_wp2_with fail
  go_ret2
  exact⟨X,_,[],0,HMno.out (by first | rfl | trivial),rfl,World.ownsRow_nil _ _ _ _,MdOut.refl H0.out (Below.refl _ _)⟩
 have hneg:decide ((k:Int) < 0)=false:=by simp
 have hkl:=(List.getElem?_eq_some_iff.1 hy).1
 have q2:=HC2.out _ (Below.refl _ _)
 have HOx:=Lib.hid (fun wx (hb:Below w.heap.size w wx)=>(show Own wx 92 2 (.slice aa x.m.attrs.length ac) x.m.attrs.length (attrC x.m.attrs) from by have:=(H0.out.below hb).W.att x (List.mem_of_getElem? HX.out);rw [HAV.out] at this;exact this))
 obtain⟨ga,hga⟩:∃ga,aa=some ⟨ga,0,none⟩:=by
  rcases(HOx.out w (Below.refl _ _)).2 with ⟨e,_⟩ | ⟨ga,cap',cur,e,_⟩
  ·simp only [Value.slice.injEq] at e;omega
  ·simp only [Value.slice.injEq] at e;exact⟨ga,e.1⟩
 subst hga
 have hac:x.m.attrs.length≤ac:=by
  rcases(HOx.out w (Below.refl _ _)).2 with ⟨e,_⟩ | ⟨ga',cap',cur,e,_,_,hc',_⟩
  ·simp only [Value.slice.injEq] at e;omega
  ·simp only [Value.slice.injEq] at e;obtain⟨_,_,rfl⟩:=e;exact hc'
 have q1:w.cell? ⟨ga,k*2+1,none⟩=some (.string ⟨y.2.toArray⟩):=by
  have:=own_news (HOx.out w (Below.refl _ _)) (2*k+1) _ (attrC_at x.m.attrs k y hy).2
  rw [Go.WideShapes.add_plain,Nat.zero_add] at this
  rw [show k*2+1=2*k+1 by omega]
  exact this
 have HY:=Lib.hid hy
 clear hy
 go_upto_region 8 with fail
 have hA3:=(All.start w).newBkA w.heap.size rfl (recC 3 c (-1) (-1) (-1) 0 name y.2 true 0 0) 144
 change All w.heap.size w _ (w.alloc (.cells #[.int .i64 3,.int .i64 (c:Int),.int .i64 (-1),.int .i64 (-1),.int .i64 (-1),.int .i64 0,.string ⟨name.toArray⟩,.string ⟨y.2.toArray⟩,.bool true,.int .i64 0,.int .i64 0] 144)) at hA3
 generalize w.alloc (.cells #[.int .i64 3,.int .i64 (c:Int),.int .i64 (-1),.int .i64 (-1),.int .i64 (-1),.int .i64 0,.string ⟨name.toArray⟩,.string ⟨y.2.toArray⟩,.bool true,.int .i64 0,.int .i64 0] 144)=W at *
 have hb3:Below w.heap.size w W:=hA3.below
 have hQ:=H0.out.W.blk.lt
 have hgl:=own_lt H0.out.W.row (k:=g) rfl
 have hkgl:=own_lt (HOx.out w (Below.refl _ _)) (k:=ga) rfl
 have e0:=HQ.out _ hb3
 have hQW:=Nat.lt_of_lt_of_le hQ hb3.size
 have hgW:=Nat.lt_of_lt_of_le hgl hb3.size
 have hkW:=Nat.lt_of_lt_of_le hkgl hb3.size
 have ea:∀o,(W.alloc o).cell? ⟨Q,0,none⟩=some (.slice (some ⟨g,0,none⟩) X.length cap):=fun o=>(World.cell?_alloc_lt _ _ _ hQW).trans e0
 have HA3:=Lib.hid hA3
 have hn:=HA3.out.drew.newSl 92 2 0 [] rfl (by omega)
 have HN:=Lib.hid hn
 have T1:=Lib.hid (show(attrC (x.m.attrs.take k)).length=k*2 from by rw [attrC_len,List.length_take];omega)
 have T2:=Lib.hid (show ∀wx,Below w.heap.size w wx→∀t u,(attrC (x.m.attrs.take k))[t]? = some u→wx.cell? ((⟨ga,0,none⟩:Addr).add t)=some u from fun wx hb t u hu =>
  own_news (HOx.out wx hb) t u (by have:=attrC_sub (l:=x.m.attrs) (a:=0) (b:=k) (t:=t) (u:=u) (by simpa using hu);simpa using this))
 have T3:=Lib.hid (attrC_one (x.m.attrs.take k))
 have U1:=Lib.hid (show(attrC (x.m.attrs.drop (k+1))).length=(x.m.attrs.length - (k+1))*2 from by rw [attrC_len,List.length_drop])
 have U3:=Lib.hid (attrC_one (x.m.attrs.drop (k+1)))
 have U2:=Lib.hid (show ∀wx,Below w.heap.size w wx→∀t u,(attrC (x.m.attrs.drop (k+1)))[t]? = some u→wx.cell? ((⟨ga,(k+1)*2,none⟩:Addr).add t)=some u from fun wx hb t u hu=>by
  have:=own_news (HOx.out wx hb) (2*(k+1)+t) u (attrC_sub (l:=x.m.attrs) (a:=k+1) (b:=x.m.attrs.length) (by rw [List.take_length];exact hu))
  rw [Go.WideShapes.add_plain] at this ⊢
  rw [show(k+1)*2+t=0+(2*(k+1)+t) by omega]
  exact this)
 have HE2:=Lib.hid (show attrC (x.m.attrs.take k) ++ attrC (x.m.attrs.drop (k+1))=attrC (x.m.attrs.eraseIdx k) from by rw [← attrC_app,List.eraseIdx_eq_take_drop_succ])
 have HE1:=Lib.hid (show ac=k+1→attrC (x.m.attrs.take k)=attrC (x.m.attrs.eraseIdx k) from fun e=>by rw [List.eraseIdx_eq_take_drop_succ,List.drop_eq_nil_of_le (by omega),List.append_nil])
 have hel:(x.m.attrs.eraseIdx k).length=x.m.attrs.length - 1:=by rw [List.length_eraseIdx,if_pos hkl]
 have hjk:(k:Int)≤(ac:Int):=by omega
 have hj1:(k:Int)+1≤(x.m.attrs.length:Int):=by omega
 have hj2:(k:Int)≤(k:Int)+1:=by omega
 have hwr:IntKind.i64.wrap ((k:Int)+1)=(k:Int)+1:=wrap_small _ (by omega) (by omega)
 have hj4:((k:Int)+1).toNat=k+1:=by omega
 have hj5:(0:Int)≤(k:Int)+1:=by omega
 have HF:=Lib.hid (fun wx (hb:Below w.heap.size w wx)=>(H0.out.below hb).W.frz)
 have hQg:Q≠g:=fun e=>by
  have h1:=H0.out.W.blk
  obtain⟨cg,hg⟩:=own_blk H0.out.W.row (b:=g) rfl
  rw [e] at h1
  exact blk_ne h1 hg (by decide) rfl
 have hgQ:g≠Q:=fun e=>hQg e.symm
 clear hA3 hn q1 q2 c0 ck hb3
 by_cases hce:ac=k+1
 case pos =>
  subst hce
  go_region_held3 (fun w'=>w'.cell? ⟨Q,0,none⟩=some (.slice (some ⟨g,0,none⟩) X.length cap)) (first | exact e0 | exact ea _ | exact e4 | exact e5 | (go_keep;done)) (first
   | (refine step_append_src etA [] HN.out T1.out (T2.out _ HN.out.below) T3.out (by omega) (by omega) (by rfl) _ _ (by rfl) (by rfl) (by rfl) ?_;intro v' w4 hA4 hv4;have e4:=HQ.out _ hA4.below;simp only [List.nil_append,Nat.zero_add] at hA4;obtain⟨va,vc,rfl⟩:=own_shape (show Own _ _ _ _ _ _ from hA4.head);have HA4:=Lib.hid hA4;have HV4:=Lib.hid hv4;clear hA4 hv4)
   | (refine step_append_src etA [] HA4.out (m:=0) (ys:=[]) rfl (fun t u hu=>by cases hu) (fun u hu=>by cases hu) (by omega) (by omega) (by rfl) _ _ (by rfl) (by rfl) (by rfl) ?_;intro v' w5 hA5 hv5;have e5:=HQ.out _ hA5.below;have f5:=HC2.out _ hA5.below;have z5:=HF.out _ hA5.below (c*7+2);simp only [List.nil_append,List.append_nil,Nat.add_zero] at hA5;rw [HE1.out rfl] at hA5;obtain⟨va2,vc2,rfl⟩:=own_shape (show Own _ _ _ _ _ _ from hA5.head);have HA5:=Lib.hid hA5;have HV5:=Lib.hid hv5;clear hA5 hv5))
  all_goals
   have hp:=H0.out.putA HX.out (Chg.of_below HA5.out.below) (.slice va2 (k) vc2) (x.m.attrs.eraseIdx k) (own_cast HA5.out.head (by omega)) (.inr (fun b hb=>HA5.out.base _ (List.Mem.head _) b hb))
   have hk5:Blk w5 w.heap.size _ _:=HA5.out.tail.head
   have hk6:=hk5.setOther ⟨g,c*7+2,none⟩ (by show w.heap.size≠g;omega) (.slice va2 (k) vc2)
   have HP6:=Lib.hid hp
   have HK6:=Lib.hid hk6
   unfold recC strV at HK6
   clear hp hk5 hk6 e5 f5 z5
   generalize World.setCell w5 ⟨g,c*7+2,none⟩ _=w6 at *
   obtain⟨⟨b0,b1,b2,b3,b4,b5,b6,b7,b8,b9,b10⟩,zf⟩:=recm_blk HK6.out
   go_wp2_with fail
   go_ret2
   refine⟨_,_,[rcA c name y.2 true],0,?_,rfl,rm_new w6 _ HP6.out.chg.size,HP6.out.still ((Below.refl _ _).alloc (Nat.le_refl _) _)⟩
   rw [ms_set]
   exact HMcut.out k y (by first | rfl | trivial) HY.out
 case neg =>
  go_region_held3 (fun w'=>w'.cell? ⟨Q,0,none⟩=some (.slice (some ⟨g,0,none⟩) X.length cap)) (first | exact e0 | exact ea _ | exact e4 | exact e5 | (go_keep;done)) (first
   | (refine step_append_src etA [] HN.out T1.out (T2.out _ HN.out.below) T3.out (by omega) (by omega) (by rfl) _ _ (by rfl) (by rfl) (by rfl) ?_;intro v' w4 hA4 hv4;have e4:=HQ.out _ hA4.below;simp only [List.nil_append,Nat.zero_add] at hA4;obtain⟨va,vc,rfl⟩:=own_shape (show Own _ _ _ _ _ _ from hA4.head);have HA4:=Lib.hid hA4;have HV4:=Lib.hid hv4;clear hA4 hv4)
   | (refine step_append_src etA [] HA4.out U1.out (U2.out _ HA4.out.below) U3.out (by omega) (by omega) (by rfl) _ _ (by rfl) (by rfl) (by rfl) ?_;intro v' w5 hA5 hv5;have e5:=HQ.out _ hA5.below;have f5:=HC2.out _ hA5.below;have z5:=HF.out _ hA5.below (c*7+2);simp only [List.nil_append] at hA5;rw [HE2.out] at hA5;obtain⟨va2,vc2,rfl⟩:=own_shape (show Own _ _ _ _ _ _ from hA5.head);have HA5:=Lib.hid hA5;have HV5:=Lib.hid hv5;clear hA5 hv5))
  all_goals
   have hp:=H0.out.putA HX.out (Chg.of_below HA5.out.below) (.slice va2 (k+(x.m.attrs.length - (k+1))) vc2) (x.m.attrs.eraseIdx k) (own_cast HA5.out.head (by omega)) (.inr (fun b hb=>HA5.out.base _ (List.Mem.head _) b hb))
   have hk5:Blk w5 w.heap.size _ _:=HA5.out.tail.head
   have hk6:=hk5.setOther ⟨g,c*7+2,none⟩ (by show w.heap.size≠g;omega) (.slice va2 (k+(x.m.attrs.length - (k+1))) vc2)
   have HP6:=Lib.hid hp
   have HK6:=Lib.hid hk6
   unfold recC strV at HK6
   clear hp hk5 hk6 e5 f5 z5
   generalize World.setCell w5 ⟨g,c*7+2,none⟩ _=w6 at *
   obtain⟨⟨b0,b1,b2,b3,b4,b5,b6,b7,b8,b9,b10⟩,zf⟩:=recm_blk HK6.out
   go_wp2_with fail
   go_ret2
   refine⟨_,_,[rcA c name y.2 true],0,?_,rfl,rm_new w6 _ HP6.out.chg.size,HP6.out.still ((Below.refl _ _).alloc (Nat.le_refl _) _)⟩
   rw [ms_set]
   exact HMcut.out k y (by first | rfl | trivial) HY.out
end Go.Proofs.YtfelmdkeaacfeaaGreatDoor.W
end
