/- Texts joined: Mrem Mmak. -/
import Derived.Test.YtfelmdkeaacfeaaGreatDoorTM1
import Derived.Test.YtfelmdkeaacfeaaGreatDoorTM18
import Derived.Test.YtfelmdkeaacfeaaGreatDoorTM13
import Derived.Deep.RegionLaw
import Derived.Deep.RegionHeld3
import Derived.LoopTactic
import Derived.BigQuiet
set_option maxRecDepth 100000
set_option maxHeartbeats 40000000
set_option linter.unusedVariables false
set_option linter.unusedSimpArgs false
section
namespace Go.Proofs.YtfelmdkeaacfeaaGreatDoor.W
open Go.RowKit
inductive MRem (M:List MN) (c:Nat) (mc:MN):List MN→List Rc→Int→Prop
 | doc (h:c=0):MRem M c mc M [] 10
 | top (h0:c≠0) (h:mc.par=none):MRem M c mc M [] 0
 | cut (q i:Nat) (mq:MN) (h0:c≠0) (h1:mc.par=some q) (h2:lv M q=some mq) (h3:mq.kids[i]? = some c):MRem M c mc (cutM M q i c) [rcD q c (pI (pv mq.kids i)) (pI mq.kids[i+1]?) i] 0
theorem mremove_any {Q g cap:Nat}{X:List MX}{D:Nat→Nat}{w:World}(h:MdAt Q (.slice (some ⟨g,0,none⟩) X.length cap) X w)(hW:MW (ms X) D){c:Nat}{mc:MN}(hc:lv (ms X) c=some mc) :
  Calls Tryz.prog 44 #[.pointer (some ⟨Q,0,none⟩),.int .i64 (c:Int)] w (MOut Q g cap X w (MRem (ms X) c mc)):=by
 have c0:=h.W.ptr
 obtain⟨_,c4,_⟩:=h.W.lvc hc
 have lc:=lv_lt hc
 have hf:=hW.few
 rw [ms_len] at hf
 have H0:=Lib.hid h
 have HW:=Lib.hid hW
 have HC:=Lib.hid hc
 clear h hW hc
 by_cases hc0:c=0
 ·subst hc0
  clear c4
  go_enter Tryz.func44,Tryz.ntmps44
  go_wp2_with fail
  go_ret2
  exact⟨X,_,[],10,.doc rfl,rfl,World.ownsRow_nil _ _ _ _,MdOut.refl H0.out (Below.refl _ _)⟩
 ·have hb:((c:Int) == 0)=false:=by simp;omega
  cases hp:mc.par with
  | none =>
   rw [hp,show pI none=-1 from rfl] at c4
   have HP:=Lib.hid hp
   clear hp
   go_enter Tryz.func44,Tryz.ntmps44
   go_wp2_with fail
   go_ret2
   exact⟨X,_,[],0,.top hc0 HP.out,rfl,World.ownsRow_nil _ _ _ _,MdOut.refl H0.out (Below.refl _ _)⟩
  | some q =>
   obtain⟨mq,hq,hcq,_⟩:=HW.out.par c mc q HC.out hp
   obtain⟨i0,hi0⟩:=List.mem_iff_getElem?.1 hcq
   have HCu:=Lib.hid (mcut_any H0.out HW.out HC.out hp hq hi0)
   have HR:=Lib.hid (show MRem (ms X) c mc (cutM (ms X) q i0 c) [rcD q c (pI (pv mq.kids i0)) (pI mq.kids[i0+1]?) i0] 0 from .cut q i0 mq hc0 hp hq hi0)
   rw [hp,show pI (some q)=(q:Int) from rfl] at c4
   clear hp hq hcq hi0
   go_enter Tryz.func44,Tryz.ntmps44
   go_wp2_with fail
   refine HCu.out.mono ?_
   rintro e wb ⟨X1,hms,rfl,hM⟩
   have HM:=Lib.hid hM
   have HMs:=Lib.hid hms
   clear hM hms c0 c4
   simp only [recC,strV]
   go_wp2_with fail
   go_ret2
   refine⟨X1,_,[rcD q c (pI (pv mq.kids i0)) (pI mq.kids[i0+1]?) i0],0,by rw [HMs.out];exact HR.out,rfl,rm_new wb _ HM.out.chg.size,HM.out.still ((Below.refl _ _).alloc (Nat.le_refl _) _)⟩
def rcA (h:Int)(name old:List UInt8)(had:Bool):Rc:=⟨3,h,-1,-1,-1,0,name,old,had,0,0⟩
inductive MSet (M:List MN) (h:Nat) (mh:MN) (name val:List UInt8):List MN→List Rc→Int→Prop
 | kind (hk:mh.kind≠2):MSet M h mh name val M [] 10
 | arg (hk:mh.kind=2) (hn:headB name=false):MSet M h mh name val M [] 1
 | add (hk:mh.kind=2) (hn:headB name=true) (h1:nmOf mh.attrs name=-1):MSet M h mh name val (M.set h { mh with attrs:=mh.attrs ++ [(name,rfix val)] }) [rcA h name [] false] 0
 | set (k:Nat) (y:Atr) (hk:mh.kind=2) (hn:headB name=true) (h1:nmOf mh.attrs name=(k:Int)) (h2:mh.attrs[k]? = some y):MSet M h mh name val (M.set h { mh with attrs:=mh.attrs.set k (y.1,rfix val) }) [rcA h name y.2 true] 0
theorem attrC_one' (a b:List UInt8):∀u∈[Value.string ⟨a.toArray⟩,.string ⟨b.toArray⟩],u.oneCell'=true:=by
 intro u hu
 simp only [List.mem_cons,List.not_mem_nil,or_false] at hu
 rcases hu with rfl | rfl <;> rfl
theorem recm_blk {w:World}{r:Nat}{a b c d e f:Int}{n o:ByteArray}{x:Bool}{y z:Int}(h:Blk w r [.int .i64 a,.int .i64 b,.int .i64 c,.int .i64 d,.int .i64 e,.int .i64 f,.string n,.string o,.bool x,.int .i64 y,.int .i64 z] 144) :
  (w.cell? ⟨r,0,none⟩=some (.int .i64 a)∧w.cell? ⟨r,1,none⟩=some (.int .i64 b)∧w.cell? ⟨r,2,none⟩=some (.int .i64 c)∧w.cell? ⟨r,3,none⟩=some (.int .i64 d)∧w.cell? ⟨r,4,none⟩=some (.int .i64 e)∧w.cell? ⟨r,5,none⟩=some (.int .i64 f) ∧
   w.cell? ⟨r,6,none⟩=some (.string n)∧w.cell? ⟨r,7,none⟩=some (.string o)∧w.cell? ⟨r,8,none⟩=some (.bool x)∧w.cell? ⟨r,9,none⟩=some (.int .i64 y)∧w.cell? ⟨r,10,none⟩=some (.int .i64 z))∧∀j,w.frozen? ⟨r,j,none⟩=false :=
 ⟨⟨h.cell 0,h.cell 1,h.cell 2,h.cell 3,h.cell 4,h.cell 5,h.cell 6,h.cell 7,h.cell 8,h.cell 9,h.cell 10⟩,h.free⟩
theorem msetAttr_any {Q g cap:Nat}{X:List MX}{w:World}(h:MdAt Q (.slice (some ⟨g,0,none⟩) X.length cap) X w)(hf:X.length≤100000){c:Nat}{mc:MN}(hc:lv (ms X) c=some mc)(hl:mc.attrs.length≤10000)(name val:List UInt8)(hn:name.length≤1000)(hv:val.length≤1000) :
  Calls Tryz.prog 45 #[.pointer (some ⟨Q,0,none⟩),.int .i64 (c:Int),strV name,strV val] w (MOut Q g cap X w (MSet (ms X) c mc name val)):=by
 have c0:=h.W.ptr
 obtain⟨ck,_,_⟩:=h.W.lvc hc
 have lc:=lv_lt hc
 obtain⟨x,hx,rfl,hg⟩:=lv_some hc
 have H0:=Lib.hid h
 have HX:=Lib.hid hx
 have HHd:=Lib.hid (fun wx=>header_any name (by omega) wx)
 have HRp:=Lib.hid (fun wx=>repairR_any val wx (by omega))
 have HFd:=Lib.hid (fun wx (hb:Below w.heap.size w wx)=>mfind_any (h.below hb).W hf c hx (by omega) name)
 have HQ:=Lib.hid (fun wx (hb:Below w.heap.size w wx)=>(h.below hb).W.ptr)
 obtain⟨aa,ac,hav⟩:=h.W.ashape (List.mem_of_getElem? hx)
 have HC2:=Lib.hid (fun wx (hb:Below w.heap.size w wx)=>(h.below hb).W.cell hx 2 (by omega))
 simp only [mxC,zzD,zzE,hav] at HC2
 have HAV:=Lib.hid hav
 clear h hc hx hav
 unfold strV at *
 by_cases hk:x.m.kind=2
 rotate_left
 ·have hb:(x.m.kind != 2)=true:=by simpa using hk
  go_enter Tryz.func45,Tryz.ntmps45
  go_wp2_with fail
  go_ret2
  exact⟨X,_,[],10,.kind hk,rfl,World.ownsRow_nil _ _ _ _,MdOut.refl H0.out (Below.refl _ _)⟩
 have HK:=Lib.hid hk
 rw [hk] at ck
 clear hk
 have HMx:=Lib.hid (show ∀(c1:headB name=false),MSet (ms X) c x.m name val (ms X) [] 1 from fun c1=>.arg HK.out c1)
 have HMadd:=Lib.hid (fun(c1:headB name=true) (c2:nmOf x.m.attrs name=-1)=>MSet.add (M:=ms X) (h:=c) (mh:=x.m) (val:=val) HK.out c1 c2)
 have HMset:=Lib.hid (fun(c1:headB name=true) (k:Nat) (y:Atr) (c2:nmOf x.m.attrs name=(k:Int)) (c3:x.m.attrs[k]? = some y)=>MSet.set (M:=ms X) (h:=c) (mh:=x.m) (val:=val) k y HK.out c1 c2 c3)
 have hcases:=nmOf_cases x.m.attrs name
 generalize MSet (ms X) c x.m name val=RX at *
 generalize nmOf x.m.attrs name=r at *
 generalize headB name=hB at *
 generalize rfix val=val' at *
 go_enter Tryz.func45,Tryz.ntmps45
 go_wp2_with fail
 refine(HHd.out _).mono ?_
 rintro e w1 ⟨rfl,hb1⟩
 clear c0 ck
 cases hB
 ·go_wp2_with fail
  go_ret2
  exact⟨X,_,[],1,HMx.out (by first | rfl | trivial),rfl,World.ownsRow_nil _ _ _ _,MdOut.refl H0.out hb1⟩
 go_wp2_with fail
 refine(HRp.out _).mono ?_
 rintro e w2 ⟨rfl,hb2⟩
 have hB2:=bthen hb1 hb2
 go_wp2_with fail
 refine(HFd.out _ hB2).mono ?_
 rintro e wz ⟨rfl,hw⟩
 subst wz
 clear HHd HRp HFd hb1 hb2
 go_upto_region 8 with fail
 have k6:Blk (w2.alloc (.cells #[.int .i64 3,.int .i64 (c:Int),.int .i64 (-1),.int .i64 (-1),.int .i64 (-1),.int .i64 0,.string ⟨name.toArray⟩,.string ⟨#[]⟩,.bool false,.int .i64 0,.int .i64 0] 144)) w2.heap.size [.int .i64 3,.int .i64 (c:Int),.int .i64 (-1),.int .i64 (-1),.int .i64 (-1),.int .i64 0,.string ⟨name.toArray⟩,.string ⟨#[]⟩,.bool false,.int .i64 0,.int .i64 0] 144:=Blk.new w2 _ _
 have hB6:Below w.heap.size w (w2.alloc (.cells #[.int .i64 3,.int .i64 (c:Int),.int .i64 (-1),.int .i64 (-1),.int .i64 (-1),.int .i64 0,.string ⟨name.toArray⟩,.string ⟨#[]⟩,.bool false,.int .i64 0,.int .i64 0] 144)):=hB2.alloc hB2.size _
 have hr6:w.heap.size≤w2.heap.size:=hB2.size
 generalize hrb:w2.heap.size=rb at *
 generalize w2.alloc (.cells #[.int .i64 3,.int .i64 (c:Int),.int .i64 (-1),.int .i64 (-1),.int .i64 (-1),.int .i64 0,.string ⟨name.toArray⟩,.string ⟨#[]⟩,.bool false,.int .i64 0,.int .i64 0] 144)=w6 at *
 have H6:=Lib.hid (H0.out.below hB6)
 have HK6:=Lib.hid k6
 have HB6:=Lib.hid hB6
 have rl6:rb < w6.heap.size:=k6.lt
 clear k6 hB2 hrb
 rcases hcases with rfl | ⟨k,y,rfl,hy⟩
 ·have q0:=HQ.out _ hB6
  have q2:=HC2.out _ hB6
  have lq:=H6.out.W.blk.lt
  have lg:=own_lt H6.out.W.row (k:=g) rfl
  have hgQ:g≠Q:=fun e=>by
   have h1:=H6.out.W.blk
   obtain⟨cg,hg⟩:=own_blk H6.out.W.row (b:=g) rfl
   rw [← e] at h1
   exact blk_ne h1 hg (by decide) rfl
  have HOx:=Lib.hid (show Own w6 92 2 (.slice aa x.m.attrs.length ac) x.m.attrs.length (attrC x.m.attrs) from by have:=H6.out.W.att x (List.mem_of_getElem? HX.out);rw [HAV.out] at this;exact this)
  have hla:∀k,(Value.slice aa x.m.attrs.length ac).ownBlock=some k→k < w6.heap.size∧k≠Q∧k≠g∧k≠rb:=fun k hk=>by
   obtain⟨cur,hcur⟩:=own_blk HOx.out hk
   refine⟨lt_of_block hcur,fun e=>?_,fun e=>?_,fun e=>?_⟩
   ·subst e;exact blk_ne hcur H6.out.W.blk (by decide) rfl
   ·subst e;obtain⟨cg,hg⟩:=own_blk H6.out.W.row (b:=k) rfl;exact blk_ne hcur hg (by decide) rfl
   ·subst e;exact blk_ne hcur HK6.out (by decide) rfl
  have hbd:Below w6.heap.size w6 (w6.drew.alloc (.cells #[.string ⟨name.toArray⟩,.string ⟨val'.toArray⟩] 92)):=((Below.refl w6.heap.size w6).drew).alloc (Nat.le_refl _) _
  have HO:=Lib.hid (own_belowM HOx.out hbd)
  have HS:=Lib.hid (own_at (n:=1) (size:=2) (Blk.new w6.drew [.string ⟨name.toArray⟩,.string ⟨val'.toArray⟩] 92) rfl (by omega))
  have HF:=Lib.hid (fun wx (hb:Below w6.heap.size w6 wx)=>(H6.out.below hb).W.frz)
  have HQ6:=Lib.hid (fun wx (hc:Chg (fun k=>(Value.slice aa x.m.attrs.length ac).ownBlock=some k) w6 wx)=>(show wx.cell? ⟨Q,0,none⟩=some (.slice (some ⟨g,0,none⟩) X.length cap)∧wx.cell? ⟨g,c*7+2,none⟩=some (.slice aa x.m.attrs.length ac)∧(∀j,wx.frozen? ⟨g,j,none⟩=false) from by
   have eQ:wx.heap[Q]? = w6.heap[Q]?:=hc.block Q lq (fun e=>(hla Q e).2.1 rfl)
   have eg:wx.heap[g]? = w6.heap[g]?:=hc.block g lg (fun e=>(hla g e).2.2.1 rfl)
   refine⟨?_,?_,fun j=>?_⟩
   ·rw [show wx.cell? ⟨Q,0,none⟩=w6.cell? ⟨Q,0,none⟩ from by simp [World.cell?,eQ]];exact q0
   ·rw [show wx.cell? ⟨g,c*7+2,none⟩=w6.cell? ⟨g,c*7+2,none⟩ from by simp [World.cell?,eg]];exact q2
   ·have:=H6.out.W.frz (c*7+2)
    rw [show wx.frozen? ⟨g,j,none⟩=w6.frozen? ⟨g,j,none⟩ from by simp [World.frozen?,eg]];exact H6.out.W.frz j))
  have hneg:decide ((0:Int)≤(-1:Int))=false:=by decide
  go_wp2_with fail
  go_region_law (first
   | (refine step_append_B etA HO.out (Nat.zero_le _) HS.out (attrC_one' _ _) (by omega) (by omega) (by rfl) _ _ (by rfl) (by rfl) (by rfl) ?_;intro v' w7 ho hgr hvb;
       have hc7:Chg (fun k=>(Value.slice aa x.m.attrs.length ac).ownBlock=some k) w6 w7:=(((Chg.refl _ w6).drew).alloc _).grown hgr (fun k e _=>e);
       obtain⟨s0,s2,sz⟩:=HQ6.out _ hc7;obtain⟨va,vc,rfl⟩:=own_shapeB ho;have HO7:=Lib.hid ho;have HC7:=Lib.hid hc7;have HV7:=Lib.hid hvb;clear ho hgr hvb hc7))
  all_goals
   have hs7:w6.heap.size≤w7.heap.size:=HC7.out.size
   have hp:=H6.out.putA HX.out (HAV.out ▸ HC7.out) (.slice va (x.m.attrs.length+1) vc) (x.m.attrs ++ [(name,val')]) (by rw [List.length_append,List.length_singleton,attrC_snoc];exact HO7.out) (by
    rw [HAV.out]
    rcases HV7.out with e | e
    ·exact .inl e
    ·exact .inr (fun b hb=>by rw [e] at hb;cases hb;exact hbd.size))
   have hk7:Blk (w7.setCell ⟨g,c*7+2,none⟩ (.slice va (x.m.attrs.length+1) vc)) rb _ _:=(HK6.out.chg HC7.out (fun e=>(hla rb e).2.2.2 rfl)).setOther ⟨g,c*7+2,none⟩ (fun e=>by
    have h1:=HK6.out
    obtain⟨cg,hg⟩:=own_blk H6.out.W.row (b:=g) rfl
    rw [show rb=g from e] at h1
    exact blk_ne h1 hg (by decide) rfl) _
   have HP7:=Lib.hid ((MdOut.refl H0.out HB6.out).trans hp)
   have HK7:=Lib.hid hk7
   clear hp hk7 s0 s2 sz HC7 HO7
   generalize w7.setCell ⟨g,c*7+2,none⟩ (.slice va (x.m.attrs.length+1) vc)=w8 at *
   obtain⟨⟨b0,b1,b2,b3,b4,b5,b6,b7,b8,b9,b10⟩,zf⟩:=recm_blk HK7.out
   go_wp2_with fail
   go_ret2
   refine⟨_,_,[rcA c name [] false],0,?_,rfl,rm_new w8 _ HP7.out.chg.size,HP7.out.still ((Below.refl _ _).alloc (Nat.le_refl _) _)⟩
   rw [ms_set]
   exact HMadd.out (by first | rfl | trivial) (by first | rfl | trivial)
 ·have hneg:decide ((0:Int)≤(k:Int))=true:=by simp
  have hkl:=(List.getElem?_eq_some_iff.1 hy).1
  have q0:=HQ.out _ hB6
  have q2:=HC2.out _ hB6
  have HOx:=Lib.hid (show Own w6 92 2 (.slice aa x.m.attrs.length ac) x.m.attrs.length (attrC x.m.attrs) from by have:=H6.out.W.att x (List.mem_of_getElem? HX.out);rw [HAV.out] at this;exact this)
  obtain⟨ga,hga⟩:∃ga,aa=some ⟨ga,0,none⟩:=by
   rcases HOx.out.2 with ⟨e,_⟩ | ⟨ga,cap',cur,e,_⟩
   ·simp only [Value.slice.injEq] at e;omega
   ·simp only [Value.slice.injEq] at e;exact⟨ga,e.1⟩
  subst hga
  have hyc:=(attrC_at x.m.attrs k y hy).2
  have q1:w6.cell? ⟨ga,k*2+1,none⟩=some (.string ⟨y.2.toArray⟩):=by
   have:=own_news HOx.out (2*k+1) _ hyc
   rw [Go.WideShapes.add_plain,Nat.zero_add] at this
   rw [show k*2+1=2*k+1 by omega]
   exact this
  have qz:∀j,w6.frozen? ⟨ga,j,none⟩=false:=fun j=>HOx.out.frozenAt j
  have hga6:ga < w6.heap.size:=own_lt HOx.out rfl
  have hgar:ga≠rb:=fun e=>by
   obtain⟨cur,hcur⟩:=own_blk HOx.out (b:=ga) rfl
   exact blk_ne hcur HK6.out (by decide) e
  have hQr:Q≠rb:=fun e=>blk_ne H6.out.W.blk HK6.out (by decide) e
  have hgr:g≠rb:=fun e=>by
   obtain⟨cg,hg⟩:=own_blk H6.out.W.row (b:=g) rfl
   exact blk_ne hg HK6.out (by decide) e
  obtain⟨⟨b0,b1,b2,b3,b4,b5,b6,b7,b8,b9,b10⟩,zf⟩:=recm_blk HK6.out
  have HY:=Lib.hid hy
  clear hy hyc
  go_upto_region 11 with fail
  have hk7:=(HK6.out.set 8 (.bool true)).set 7 (.string ⟨y.2.toArray⟩)
  simp only [List.set_cons_succ,List.set_cons_zero] at hk7
  have oth:∀k',k'≠rb→((w6.setCell ⟨rb,8,none⟩ (.bool true)).setCell ⟨rb,7,none⟩ (.string ⟨y.2.toArray⟩)).heap[k']? = w6.heap[k']?:=fun k' hk'=>(Below.heap_setCell _ _ _ _ hk').trans (Below.heap_setCell _ _ _ _ hk')
  have hch7:Chg (fun k=>k=rb) w6 ((w6.setCell ⟨rb,8,none⟩ (.bool true)).setCell ⟨rb,7,none⟩ (.string ⟨y.2.toArray⟩)):=((Chg.refl (fun k=>k=rb) w6).setCell ⟨rb,8,none⟩ (fun _=>(rfl:rb=rb)) _).setCell ⟨rb,7,none⟩ (fun _=>(rfl:rb=rb)) _
  have h7:MdAt Q (.slice (some ⟨g,0,none⟩) X.length cap) X ((w6.setCell ⟨rb,8,none⟩ (.bool true)).setCell ⟨rb,7,none⟩ (.string ⟨y.2.toArray⟩)):=(mdO Q (.slice (some ⟨g,0,none⟩) X.length cap) X).loc w6 _ H6.out (fun k' hk'=>oth k' (fun e=>by
   obtain⟨cur,ty,hcur,hne,_⟩:=md_ty H6.out hk'
   subst e
   exact blk_ne hcur HK6.out hne rfl))
  have hM7:MdOut Q (.slice (some ⟨g,0,none⟩) X.length cap) X w (.slice (some ⟨g,0,none⟩) X.length cap) X ((w6.setCell ⟨rb,8,none⟩ (.bool true)).setCell ⟨rb,7,none⟩ (.string ⟨y.2.toArray⟩)) :=
   ⟨h7,(Chg.of_below HB6.out).trans hch7 (fun i hi e=>by subst e;omega),fun k hk=>.inl hk⟩
  have q0':=h7.W.ptr
  have q2':=h7.W.cell HX.out 2 (by omega)
  simp only [mxC,zzD,zzE,HAV.out] at q2'
  have qz':∀j,((w6.setCell ⟨rb,8,none⟩ (.bool true)).setCell ⟨rb,7,none⟩ (.string ⟨y.2.toArray⟩)).frozen? ⟨ga,j,none⟩=false:=fun j=>by
   have:=h7.W.att x (List.mem_of_getElem? HX.out)
   rw [HAV.out] at this
   exact this.frozenAt j
  have q1':((w6.setCell ⟨rb,8,none⟩ (.bool true)).setCell ⟨rb,7,none⟩ (.string ⟨y.2.toArray⟩)).cell? ⟨ga,k*2+1,none⟩=some (.string ⟨y.2.toArray⟩):=by
   have h8:=h7.W.att x (List.mem_of_getElem? HX.out)
   rw [HAV.out] at h8
   have:=own_news h8 (2*k+1) _ (attrC_at x.m.attrs k y HY.out).2
   rw [Go.WideShapes.add_plain,Nat.zero_add] at this
   rw [show k*2+1=2*k+1 by omega]
   exact this
  have HM7:=Lib.hid hM7
  have H7:=Lib.hid h7
  have HK7:=Lib.hid hk7
  clear hk7 oth hch7 h7 hM7 q0 q2 q1 qz b0 b1 b2 b3 b4 b5 b6 b7 b8 b9 b10 zf
  generalize (w6.setCell ⟨rb,8,none⟩ (.bool true)).setCell ⟨rb,7,none⟩ (.string ⟨y.2.toArray⟩)=w7 at *
  go_upto_region 13 with fail
  have hp:=H7.out.setV HX.out HAV.out HY.out val'
  have hk8:=HK7.out.setOther ⟨ga,k*2+1,none⟩ (fun e=>hgar e.symm) (strV val')
  have HP8:=Lib.hid (HM7.out.trans hp)
  have HK8:=Lib.hid hk8
  unfold strV at HP8 HK8
  clear hp hk8 q0' q1' q2' qz'
  generalize w7.setCell ⟨ga,k*2+1,none⟩ (.string ⟨val'.toArray⟩)=w8 at *
  obtain⟨⟨b0,b1,b2,b3,b4,b5,b6,b7,b8,b9,b10⟩,zf⟩:=recm_blk HK8.out
  go_wp2_with fail
  go_ret2
  refine⟨_,_,[rcA c name y.2 true],0,?_,rfl,rm_new w8 _ HP8.out.chg.size,HP8.out.still ((Below.refl _ _).alloc (Nat.le_refl _) _)⟩
  rw [ms_set]
  exact HMset.out (by first | rfl | trivial) k y (by first | rfl | trivial) HY.out
theorem etN:ET Tryz.prog 82 81 7 104:=ET.mk' (z:=.agg #[.int .i64 0,.string ⟨#[]⟩,.slice none 0 0,.string ⟨#[]⟩,.int .i64 0,.slice none 0 0,.bool false]) Tryz.underlying82 (by kernel_rfl) rfl (by omega)
theorem md_push {Q:Nat}{nv nv':Value}{X:List MX}{w w':World}(h:MdAt Q nv X w)(x:MX)(hc:Chg (fun k=>k=Q∨nv.ownBlock=some k) w w')(hb:Blk w' Q [nv'] 84)(hr:Own w' 81 7 nv' (X.length+1) (rows mxC X ++ mxC x))
  (hnv:nv'.ownBlock=nv.ownBlock∨∀b,nv'.ownBlock=some b→w.heap.size≤b)(ha:Own w' 92 2 x.av x.m.attrs.length (attrC x.m.attrs))(hk:Own w' 3 1 x.kv x.m.kids.length (kC x.m.kids))(fa:∀b,x.av.ownBlock=some b→w.heap.size≤b)(fk:∀b,x.kv.ownBlock=some b→w.heap.size≤b) :
  MdOut Q nv X w nv' (X ++ [x]) w':=by
 refine⟨h.snoc x hc hb hr ha hk (fun b hb' y hy e=>?_) (fun b hb' y hy e=>?_),hc.mono (fun k _ hk=>?_),fun k hF=>?_⟩
 ·have:=fa b hb';have:=own_lt (h.W.att y hy) e;omega
 ·have:=fk b hb';have:=own_lt (h.W.kid y hy) e;omega
 ·rcases hk with e | e
  ·exact .inl e
  ·exact .inr (.inl e)
 ·rcases hF with rfl | hF | ⟨y,hy,hF⟩
  ·exact .inl (.inl rfl)
  ·rcases hnv with e | e
   ·exact .inl (.inr (.inl (e ▸ hF)))
   ·exact .inr (e k hF)
  ·rcases List.mem_append.1 hy with hy | hy
   ·exact .inl (.inr (.inr ⟨y,hy,hF⟩))
   ·simp at hy;subst hy
    rcases hF with hF | hF
    ·exact .inr (fa k hF)
    ·exact .inr (fk k hF)
def namesB (al:List Atr):Bool:=al.all (fun a=>headB a.1) && decide ((al.map (·.1)).Nodup)
def newMN (kind:Int)(name:List UInt8)(attrs:List Atr)(data:List UInt8):MN:=⟨kind,name,attrs,data,none,[],false⟩
inductive MMak (M:List MN) (kind:Int) (name data:List UInt8) (al:List Atr):List MN→Int→Prop
 | arg (h:kind=2) (hn:(elmB name && namesB al)=false):MMak M kind name data al M 1
 | el (h:kind=2) (hn:(elmB name && namesB al)=true):MMak M kind name data al (M ++ [newMN kind name (al.map fun a=>(a.1,rfix a.2)) []]) 0
 | tx (h:kind≠2):MMak M kind name data al (M ++ [newMN kind [] [] (rfix data)]) 0
theorem nd_cells7 {w:World}{r:Nat}{a:Int}{b:ByteArray}{av:Value}{c:ByteArray}{d:Int}{kv:Value}{e:Bool}(h:Blk w r [.int .i64 a,.string b,av,.string c,.int .i64 d,kv,.bool e] 81) :
  (w.cell? ⟨r,0,none⟩=some (.int .i64 a)∧w.cell? ⟨r,1,none⟩=some (.string b)∧w.cell? ⟨r,2,none⟩=some av∧w.cell? ⟨r,3,none⟩=some (.string c)∧w.cell? ⟨r,4,none⟩=some (.int .i64 d)∧w.cell? ⟨r,5,none⟩=some kv∧w.cell? ⟨r,6,none⟩=some (.bool e))∧∀j,w.frozen? ⟨r,j,none⟩=false :=
 ⟨⟨h.cell 0,h.cell 1,h.cell 2,h.cell 3,h.cell 4,h.cell 5,h.cell 6⟩,h.free⟩
theorem mx_one {x:MX}(ha:∃a n c,x.av=.slice a n c)(hk:∃a n c,x.kv=.slice a n c):∀u∈mxC x,u.oneCell'=true:=by
 obtain⟨a,n,c,e⟩:=ha
 obtain⟨a',n',c',e'⟩:=hk
 intro u hu
 simp only [mxC,e,e',List.mem_cons,List.not_mem_nil,or_false] at hu
 rcases hu with rfl | rfl | rfl | rfl | rfl | rfl | rfl <;> rfl
def MMakR (Q g cap:Nat)(X:List MX)(w:World)(kind:Int)(name data:List UInt8)(al:List Atr)(e:Ending)(w':World):Prop :=
 ∃X' g' cap' en,MMak (ms X) kind name data al (ms X') en∧e=.returned (.int .i64 en)∧MdOut Q (.slice (some ⟨g,0,none⟩) X.length cap) X w (.slice (some ⟨g',0,none⟩) X'.length cap') X' w'
theorem mmake_tx {Q g cap:Nat}{X:List MX}{w:World}(h:MdAt Q (.slice (some ⟨g,0,none⟩) X.length cap) X w)(hX:X.length≤100000)(kind:Int)(hk:kind≠2)(hk0:0≤kind)(hk1:kind≤100)(name data:List UInt8)(hd:data.length≤1000)(v:Value)(al:List Atr) :
  Calls Tryz.prog 41 #[.pointer (some ⟨Q,0,none⟩),.int .i64 kind,strV name,strV data,v] w (MMakR Q g cap X w kind name data al):=by
 have H0:=Lib.hid h
 have HRp:=Lib.hid (fun wx=>repairR_any data wx (by omega))
 have HR:=Lib.hid (MMak.tx (M:=ms X) (name:=name) (data:=data) (al:=al) hk)
 have hb:(kind == 2)=false:=by simpa using hk
 have lq:=h.W.blk.lt
 unfold strV at *
 clear h
 go_enter Tryz.func41,Tryz.ntmps41
 go_wp2_with fail
 have k1:Blk (w.alloc (.cells #[.int .i64 kind,.string ⟨#[]⟩,.slice none 0 0,.string ⟨#[]⟩,.int .i64 (-1),.slice none 0 0,.bool false] 81)) w.heap.size [.int .i64 kind,.string ⟨#[]⟩,.slice none 0 0,.string ⟨#[]⟩,.int .i64 (-1),.slice none 0 0,.bool false] 81:=Blk.new w _ _
 have hb1:Below w.heap.size w (w.alloc (.cells #[.int .i64 kind,.string ⟨#[]⟩,.slice none 0 0,.string ⟨#[]⟩,.int .i64 (-1),.slice none 0 0,.bool false] 81)):=(Below.refl _ _).alloc (Nat.le_refl _) _
 refine(HRp.out _).mono ?_
 rintro e w2 ⟨rfl,hb2⟩
 have hB2:=bthen hb1 hb2
 have k2:=k1.below hb2
 generalize hr0:w.heap.size=r at *
 generalize rfix data=dat at *
 obtain⟨⟨b0,b1,b2,b3,b4,b5,b6⟩,zf⟩:=nd_cells7 k2
 have H2:MdAt Q (.slice (some ⟨g,0,none⟩) X.length cap) X w2:=H0.out.below (by rw [hr0];exact hB2)
 have HH2:=Lib.hid H2
 have HK2:=Lib.hid k2
 have HB2:=Lib.hid hB2
 have hrl2:=k2.lt
 clear k1 hb1 hb2 hB2 k2
 go_upto_region 18 with fail
 have k3:=HK2.out.set 3 (.string ⟨dat.toArray⟩)
 simp only [List.set_cons_succ,List.set_cons_zero] at k3
 have h3:MdAt Q (.slice (some ⟨g,0,none⟩) X.length cap) X (w2.setCell ⟨r,3,none⟩ (.string ⟨dat.toArray⟩)):=(mdO Q (.slice (some ⟨g,0,none⟩) X.length cap) X).loc w2 _ H2 (fun k' hk'=>Below.heap_setCell _ _ _ _ (fun e=>by
  have:=(mdO Q (.slice (some ⟨g,0,none⟩) X.length cap) X).here w H0.out k' hk'
  rw [show k'=r from e] at this;omega))
 have hch3:Chg (fun k=>k=r) w2 (w2.setCell ⟨r,3,none⟩ (.string ⟨dat.toArray⟩)):=(Chg.refl (fun k=>k=r) w2).setCell ⟨r,3,none⟩ (fun _=>(rfl:r=r)) _
 have hC3:Chg (fun k=>k=Q∨(Value.slice (some ⟨g,0,none⟩) X.length cap).ownBlock=some k) w (w2.setCell ⟨r,3,none⟩ (.string ⟨dat.toArray⟩)):=(Chg.of_below (by rw [hr0];exact HB2.out)).trans hch3 (fun i hi e=>by rw [hr0] at hi;omega)
 clear b0 b1 b2 b3 b4 b5 b6 zf H2 hch3
 have hs3:r < (w2.setCell ⟨r,3,none⟩ (.string ⟨dat.toArray⟩)).heap.size:=k3.lt
 generalize w2.setCell ⟨r,3,none⟩ (.string ⟨dat.toArray⟩)=w3 at *
 obtain⟨⟨b0,b1,b2,b3,b4,b5,b6⟩,zf⟩:=nd_cells7 k3
 have q0:=h3.W.ptr
 have qz:=h3.W.blk.free
 have hQr:Q≠r:=by omega
 have hQl3:=h3.W.blk.lt
 have hbd:Below w3.heap.size w3 (w3.drew.alloc (.cells #[.int .i64 kind,.string ⟨#[]⟩,.slice none 0 0,.string ⟨dat.toArray⟩,.int .i64 (-1),.slice none 0 0,.bool false] 81)):=((Below.refl w3.heap.size w3).drew).alloc (Nat.le_refl _) _
 have HO:=Lib.hid (own_belowM h3.W.row hbd)
 have HS:=Lib.hid (own_at (n:=1) (size:=7) (Blk.new w3.drew [.int .i64 kind,.string ⟨#[]⟩,.slice none 0 0,.string ⟨dat.toArray⟩,.int .i64 (-1),.slice none 0 0,.bool false] 81) rfl (by omega))
 have H2:=Lib.hid (show ∀u∈([.int .i64 kind,.string ⟨#[]⟩,.slice none 0 0,.string ⟨dat.toArray⟩,.int .i64 (-1),.slice none 0 0,.bool false]:List Value),u.oneCell'=true from mx_one (x:=⟨newMN kind [] [] dat,.slice none 0 0,.slice none 0 0⟩) ⟨_,_,_,rfl⟩ ⟨_,_,_,rfl⟩)
 have HQb:=Lib.hid (h3.W.blk.below hbd)
 have hQg:Q≠g:=fun e=>by
  have h1:=h3.W.blk
  obtain⟨cg,hg⟩:=own_blk h3.W.row (b:=g) rfl
  rw [e] at h1
  exact blk_ne h1 hg (by decide) rfl
 have HH3:=Lib.hid h3
 have HC3:=Lib.hid hC3
 clear h3 hC3 k3
 go_region_law (first
   | (refine step_append_B etN HO.out (Nat.zero_le _) HS.out H2.out (by omega) (by omega) (by rfl) _ _ (by rfl) (by rfl) (by rfl) ?_;intro v' w4 ho hgr hvb;
       obtain⟨va,vc,rfl⟩:=own_shapeB ho;have kb1:=HQb.out.kept (hgr.block Q HQb.out.lt (fun e=>by cases e;exact hQg rfl));have d0:=kb1.cell 0;have df:=kb1.free 0;simp only [List.getElem?_cons_zero] at d0;
       have kb:=Lib.hid kb1;have ks:=Lib.hid ho;have kg:=Lib.hid hgr;have kv:=Lib.hid hvb;clear ho hgr hvb kb1))
 all_goals
  go_wp2_with fail
  go_ret
  have hc4:Chg (fun k=>k=Q∨(Value.slice (some ⟨g,0,none⟩) X.length cap).ownBlock=some k) w3 w4:=((Chg.of_below hbd).grown kg.out (fun k e _=>.inr e))
  have hc5:=(HC3.out.trans hc4 (fun _ _ h=>h)).setCell ⟨Q,0,none⟩ (fun _=>.inl rfl) (.slice va (X.length+1) vc)
  obtain⟨g',hg'⟩:∃g',va=some ⟨g',0,none⟩:=by
   rcases ks.out.2 with ⟨e,_⟩ | ⟨g',cap',cur,e,_⟩
   ·simp only [Value.slice.injEq] at e;omega
   ·simp only [Value.slice.injEq] at e;exact⟨g',e.1⟩
  subst hg'
  have hgQ':g'≠Q:=fun e=>by
   obtain⟨cur,hcur⟩:=own_blk (show Own w4 _ _ _ _ _ from ks.out) (b:=g') rfl
   exact blk_ne hcur kb.out (by decide) e
  have hm:=md_push H0.out ⟨newMN kind [] [] dat,.slice none 0 0,.slice none 0 0⟩ hc5 (kb.out.set 0 (.slice (some ⟨g',0,none⟩) (X.length+1) vc)) (own_kB ks.out (fun b hb=>Below.heap_setCell _ _ _ _ (by cases hb;exact hgQ')))
   (kv.out.imp id (fun e b hb=>by rw [e] at hb;cases hb;exact Nat.le_trans HC3.out.size hbd.size)) (World.ownsRow_nil _ _ _ _) (World.ownsRow_nil _ _ _ _) (fun b hb=>by cases hb) (fun b hb=>by cases hb)
  refine⟨X ++ [⟨newMN kind [] [] dat,.slice none 0 0,.slice none 0 0⟩],g',vc,0,?_,rfl,?_⟩
  ·unfold ms;rw [List.map_append];exact HR.out
  ·rw [List.length_append];exact hm
theorem namesB_no1 {al:List Atr}{i:Nat}{y:Atr}(hy:al[i]? = some y)(h:headB y.1=false):namesB al=false:=by
 unfold namesB
 have:al.all (fun a=>headB a.1)=false:=by
  rw [List.all_eq_false]
  exact⟨y,List.mem_of_getElem? hy,by simp [h]⟩
 rw [this];rfl
theorem namesB_no2 {al:List Atr}{i k:Nat}{y z:Atr}(hy:al[i]? = some y)(hz:al[k]? = some z)(hki:k < i)(h:z.1=y.1):namesB al=false:=by
 unfold namesB
 have:¬(al.map (·.1)).Nodup:=fun hn=>by
  have h1:(al.map (·.1))[i]? = some y.1:=by rw [List.getElem?_map,hy];rfl
  have h2:(al.map (·.1))[k]? = some y.1:=by rw [List.getElem?_map,hz,← h];rfl
  have:=(List.getElem?_inj (by have:=(List.getElem?_eq_some_iff.1 h2).1;omega) hn).1 (h2.trans h1.symm)
  omega
 rw [decide_eq_false this];simp
def NmsOk (al:List Atr)(i:Nat):Prop:=∀j y,j < i→al[j]? = some y→headB y.1=true∧∀k z,k < j→al[k]? = some z→z.1≠y.1
theorem namesB_yes {al:List Atr}(h:NmsOk al al.length):namesB al=true:=by
 unfold namesB
 rw [Bool.and_eq_true]
 constructor
 ·rw [List.all_eq_true]
  intro y hy
  obtain⟨j,hj⟩:=List.mem_iff_getElem?.1 hy
  exact(h j y (List.getElem?_eq_some_iff.1 hj).1 hj).1
 ·rw [decide_eq_true_eq,List.nodup_iff_pairwise_ne,List.pairwise_iff_getElem]
  intro k j hk hj hkj
  simp only [List.length_map] at hk hj
  rw [List.getElem_map,List.getElem_map]
  exact(h j al[j] hj (List.getElem?_eq_getElem hj)).2 k al[k] hkj (List.getElem?_eq_getElem hk)
theorem attrC_map (l:List Atr)(i:Nat)(y:Atr)(h:l[i]? = some y)(f:Atr→Atr):attrC ((l.take (i+1)).map f)=attrC ((l.take i).map f) ++ atC (f y):=by
 rw [List.take_add_one,h,List.map_append]
 exact attrC_snoc _ _
def nC2 (sv:Value):List Value:=[.int .i64 2,.string ⟨#[]⟩,sv,.string ⟨#[]⟩,.int .i64 (-1),.slice none 0 0,.bool false]
def MakL (w:World)(r:Nat)(al:List Atr)(iv:Value)(wr:World):Prop :=
 ∃(i:Nat) (sa:Option Addr) (sl' sc:Nat),i≤al.length∧sl'=i∧iv=.int .i64 (i:Int)∧NmsOk al i∧Blk wr r (nC2 (.slice sa sl' sc)) 81∧wr.ownsRow w.heap.size 92 2 (.slice sa sl' sc) sl' (attrC ((al.take i).map fun a=>(a.1,rfix a.2)))∧Below w.heap.size w wr
theorem mmake_el {Q g cap:Nat}{X:List MX}{w:World}(h:MdAt Q (.slice (some ⟨g,0,none⟩) X.length cap) X w)(hX:X.length≤100000)(name data:List UInt8)(hn:name.length≤1000)(v:Value)(al:List Atr)(hv:Own w 92 2 v al.length (attrC al))(hal:al.length≤100)(has:∀a∈al,a.1.length≤1000∧a.2.length≤1000) :
  Calls Tryz.prog 41 #[.pointer (some ⟨Q,0,none⟩),.int .i64 2,strV name,strV data,v] w (MMakR Q g cap X w 2 name data al):=by
 have H0:=Lib.hid h
 have lq:=h.W.blk.lt
 have HEl:=Lib.hid (fun wx=>element_any name (by omega) wx)
 have HHd:=Lib.hid (fun(a:Atr) (ha:a∈al) wx=>header_any a.1 (by have:=(has a ha).1;omega) wx)
 have HRp:=Lib.hid (fun(a:Atr) (ha:a∈al) wx=>repairR_any a.2 wx (by have:=(has a ha).2;omega))
 have HEQ:=Lib.hid (fun a b:List UInt8=>str_eq a b)
 have HA1:=Lib.hid (fun(c:(elmB name && namesB al)=false)=>MMak.arg (M:=ms X) (data:=data) (rfl:(2:Int)=2) c)
 have HR:=Lib.hid (fun(c:(elmB name && namesB al)=true)=>MMak.el (M:=ms X) (data:=data) (rfl:(2:Int)=2) c)
 obtain⟨va0,vc0,rfl⟩:=own_shape hv
 have HV:=Lib.hid (fun wx (hb:Below w.heap.size w wx)=>own_belowM hv hb)
 unfold strV at *
 have HVc:=Lib.hid (fun(j:Nat) (y:Atr) (hy:al[j]? = some y) wx (hb:Below w.heap.size w wx)=>(show ∃ga,va0=some ⟨ga,0,none⟩∧ga < w.heap.size∧wx.cell? ⟨ga,j*2,none⟩=some (.string ⟨y.1.toArray⟩)∧wx.cell? ⟨ga,j*2+1,none⟩=some (.string ⟨y.2.toArray⟩) from by
  have hl:=(List.getElem?_eq_some_iff.1 hy).1
  obtain⟨ga,hga⟩:∃g,va0=some ⟨g,0,none⟩:=by
   rcases hv.2 with ⟨e,e2⟩ | ⟨g,cap,cur,e,_⟩
   ·omega
   ·simp only [Value.slice.injEq] at e;exact⟨g,e.1⟩
  subst hga
  have ho:=own_belowM hv hb
  have h1:=own_news ho (2*j) _ (attrC_at al j y hy).1
  have h2:=own_news ho (2*j+1) _ (attrC_at al j y hy).2
  rw [Go.WideShapes.add_plain,Nat.zero_add] at h1 h2
  exact⟨ga,rfl,own_lt hv rfl,by rw [Nat.mul_comm];exact h1,by rw [Nat.mul_comm j];exact h2⟩))
 clear h hv has
 go_enter Tryz.func41,Tryz.ntmps41
 go_wp2_with fail
 have k1:Blk (w.alloc (.cells #[.int .i64 2,.string ⟨#[]⟩,.slice none 0 0,.string ⟨#[]⟩,.int .i64 (-1),.slice none 0 0,.bool false] 81)) w.heap.size [.int .i64 2,.string ⟨#[]⟩,.slice none 0 0,.string ⟨#[]⟩,.int .i64 (-1),.slice none 0 0,.bool false] 81:=Blk.new w _ _
 have hb1:Below w.heap.size w (w.alloc (.cells #[.int .i64 2,.string ⟨#[]⟩,.slice none 0 0,.string ⟨#[]⟩,.int .i64 (-1),.slice none 0 0,.bool false] 81)):=(Below.refl _ _).alloc (Nat.le_refl _) _
 refine(HEl.out _).mono ?_
 rintro e w2 ⟨rfl,hb2⟩
 have HB2:=Lib.hid (bthen hb1 hb2)
 have HK2:=Lib.hid (k1.below hb2)
 generalize w.alloc (.cells #[.int .i64 2,.string ⟨#[]⟩,.slice none 0 0,.string ⟨#[]⟩,.int .i64 (-1),.slice none 0 0,.bool false] 81)=w1 at *
 clear k1 hb1 hb2
 cases hel:elmB name
 ·go_wp2_with fail
  go_ret
  exact⟨X,g,cap,1,HA1.out (by rw [hel];rfl),rfl,MdOut.refl H0.out HB2.out⟩
 have HEx:=Lib.hid hel
 clear hel HEl
 go_wp2_with fail
 go_loopw [12] (fun iv wr=>MakL w w.heap.size al iv wr) (fun iv _=>al.length - intN iv)
 case atStart=>exact⟨0,none,0,0,by omega,rfl,rfl,fun j y hj=>absurd hj (by omega),HK2.out,World.ownsRow_nil _ _ _ _,HB2.out⟩
 case round =>
  obtain⟨i,sa,sl',sc,hi,hsl,rfl,hnm,hkr,hown,hbr⟩:=hrel
  have HNm:=Lib.hid hnm
  have HKr:=Lib.hid hkr
  have HOr:=Lib.hid hown
  have HBr:=Lib.hid hbr
  have HSl:=Lib.hid hsl
  have hsl2:sl'≤100:=by omega
  clear hnm hkr hown hbr hsl HB2 HK2
  by_cases hil:i < al.length
  ·obtain⟨y,hy⟩:∃y,al[i]? = some y:=⟨_,List.getElem?_eq_getElem hil⟩
   have hym:=List.mem_of_getElem? hy
   obtain⟨ga,rfl,hga,cn,cv⟩:=HVc.out i y hy _ HBr.out
   have HY:=Lib.hid hy
   have HYm:=Lib.hid hym
   clear hy hym
   go_wp2_with fail
   refine(HHd.out y HYm.out _).mono ?_
   rintro e w4 ⟨rfl,hb4⟩
   have HB4:=Lib.hid (bthen HBr.out hb4)
   have HK4:=Lib.hid (HKr.out.below hb4)
   have HO4:=Lib.hid (own_keepB HOr.out hb4)
   clear hb4 cn cv HKr HOr HBr
   cases hhd:headB y.1
   ·have HN:=Lib.hid (namesB_no1 HY.out hhd)
    clear hhd
    go_wp2_with fail
    go_ret
    exact⟨X,g,cap,1,HA1.out (by rw [HN.out];simp),rfl,MdOut.refl H0.out HB4.out⟩
   have HHx:=Lib.hid hhd
   clear hhd
   go_wp2_with fail
   go_loopw [13] (fun kv wr=>∃k:Nat,k≤i∧kv=.int .i64 (k:Int)∧(∀j z,j < k→al[j]? = some z→z.1≠y.1)∧Below w.heap.size w wr∧Blk wr w.heap.size (nC2 (.slice sa sl' sc)) 81∧wr.ownsRow w.heap.size 92 2 (.slice sa sl' sc) sl' (attrC ((al.take i).map fun a=>(a.1,rfix a.2)))) (fun kv _=>i - intN kv)
   case atStart=>exact⟨0,by omega,rfl,fun j z hj=>absurd hj (by omega),HB4.out,HK4.out,HO4.out⟩
   case round =>
    obtain⟨k,hk,rfl,hno,hbq,hkq,hoq⟩:=hrel
    have HNo:=Lib.hid hno
    have HBq:=Lib.hid hbq
    have HKq:=Lib.hid hkq
    have HOq:=Lib.hid hoq
    clear hno hbq hkq hoq HB4 HK4 HO4
    by_cases hki:k < i
    ·obtain⟨z,hz⟩:∃z,al[k]? = some z:=⟨_,List.getElem?_eq_getElem (by omega)⟩
     obtain⟨ga',hga',_,cz,_⟩:=HVc.out k z hz _ HBq.out
     cases hga'
     obtain⟨ga',hga',_,cy,_⟩:=HVc.out i y HY.out _ HBq.out
     cases hga'
     have heq:=HEQ.out z.1 y.1
     have HZ:=Lib.hid hz
     clear hz
     have hkal:(k:Int) < (al.length:Int):=by omega
     have hial:(i:Int) < (al.length:Int):=by omega
     generalize hs1:(⟨z.1.toArray⟩:ByteArray)=s1 at *
     generalize hs2:(⟨y.1.toArray⟩:ByteArray)=s2 at *
     by_cases hzy:z.1=y.1
     ·rw [decide_eq_true hzy] at heq
      have HN:=Lib.hid (namesB_no2 HY.out HZ.out hki hzy)
      clear hzy
      go_wp2_with fail
      go_quiet (fail)
      go_wp2_with fail
      go_ret
      exact⟨X,g,cap,1,HA1.out (by rw [HN.out];simp),rfl,MdOut.refl H0.out (Below.drewN HBq.out _)⟩
     ·rw [decide_eq_false hzy] at heq
      have HN:=Lib.hid (show ∀j z',j < k+1→al[j]? = some z'→z'.1≠y.1 from fun j z' hj hz'=>by
       by_cases e:j=k
       ·subst e;rw [HZ.out] at hz';cases hz';exact hzy
       ·exact HNo.out j z' (by omega) hz')
      clear hzy
      go_wp2_with fail
      go_quiet (fail)
      go_wp2_with fail
      exact⟨⟨k+1,by omega,by first | rfl | simp,HN.out,Below.drewN HBq.out _,HKq.out,HOq.out⟩,by simp only [intN];omega⟩
    ·obtain rfl:k=i:=by omega
     obtain⟨⟨b0,b1,b2,b3,b4,b5,b6⟩,zf⟩:=nd_cells7 (show Blk _ _ [_,_,_,_,_,_,_] _ from HKq.out)
     obtain⟨ga',hga',_,cn,cv⟩:=HVc.out k y HY.out _ HBq.out
     cases hga'
     have hsz:=HBq.out.size
     have hrl:=HKq.out.lt
     have hgal:ga < wr.heap.size:=by omega
     have hgr0:ga≠w.heap.size:=by omega
     have hne:∀b,(Value.slice sa sl' sc).ownBlock=some b→b≠w.heap.size:=fun b hb e=>by
      obtain⟨cur,hcur⟩:=own_blk (show Own wr _ _ _ _ _ from own_low HOq.out (Nat.zero_le _)) hb
      subst e
      exact blk_ne hcur HKq.out (by decide) rfl
     have hil2:(k:Int) < (al.length:Int):=by omega
     go_wp2_with fail
     go_region_law (first
      | (go_simp;go_at_call 92;refine(HRp.out y HYm.out _).mono ?_;rintro e w6 ⟨rfl,hb6⟩;
          have hB6:Below wr.heap.size wr w6:=((Below.refl _ wr).drew).trans (hb6.mono (Nat.le_refl _));
          obtain⟨⟨d0,d1,d2,d3,d4,d5,d6⟩,zf6⟩:=nd_cells7 (show Blk _ _ [_,_,_,_,_,_,_] _ from HKq.out.below hB6);
          obtain⟨ga6,hga6,_,cn6,cv6⟩:=HVc.out k y HY.out _ (HBq.out.trans (hB6.mono HBq.out.size));cases hga6;
          have hrl6:=(HKq.out.below hB6).lt;have hgl6:=Nat.lt_of_lt_of_le hgal hB6.size;have HB6:=Lib.hid hB6;clear hb6 hB6)
      | (refine step_append_B etA (own_keepB HOq.out (HB6.out.alloc HB6.out.size _)) (Nat.le_trans hsz (by simp;exact Nat.le_succ_of_le HB6.out.size)) (own_at (n:=1) (size:=2) (Blk.new w6 [.string ⟨y.1.toArray⟩,.string ⟨(rfix y.2).toArray⟩] 92) rfl (by omega)) (attrC_one' _ _) (by omega) (by omega) (by rfl) _ _ (by rfl) (by rfl) (by rfl) ?_;intro v' w7 ho hgr hvb;
          obtain⟨va,vc,rfl⟩:=own_shapeB ho;have kr7:=((HKq.out.below HB6.out).alloc (.cells #[.string ⟨y.1.toArray⟩,.string ⟨(rfix y.2).toArray⟩] 92)).kept (hgr.block w.heap.size (by have:=hrl6;simp;omega) (fun e=>hne _ e.symm rfl));have e2:w7.cell? ⟨w.heap.size,2,none⟩=some (.slice sa sl' sc):=kr7.cell 2;have ef:w7.frozen? ⟨w.heap.size,2,none⟩=false:=kr7.free 2;
          have HK7:=Lib.hid kr7;have HO7:=Lib.hid ho;have HG7:=Lib.hid hgr;clear ho hgr hvb kr7))
     all_goals
      have hb7:Below w.heap.size w w7:=((HBq.out.trans (HB6.out.mono HBq.out.size)).alloc (Nat.le_trans hsz HB6.out.size) _).grown HG7.out (Nat.le_trans hsz (by simp;exact Nat.le_succ_of_le HB6.out.size)) (fun b hb=>(HOq.out.lt b hb).1)
      have hk8:=HK7.out.set 2 (.slice va (sl'+1) vc)
      have ho8:=own_kB HO7.out (w':=w7.setCell ⟨w.heap.size,2,none⟩ (.slice va (sl'+1) vc)) (fun b hb=>Below.heap_setCell _ _ _ _ (fun e=>by
       obtain⟨cur,hcur⟩:=own_blk (show Own w7 _ _ _ _ _ from own_low HO7.out (Nat.zero_le _)) hb
       rw [show b=w.heap.size from e] at hcur
       exact blk_ne hcur HK7.out (by decide) rfl))
      have hb8:=hb7.setCell (p:=⟨w.heap.size,2,none⟩) (Nat.le_refl w.heap.size) (.slice va (sl'+1) vc)
      have HK8:=Lib.hid hk8
      have HO8:=Lib.hid ho8
      have HB8:=Lib.hid hb8
      have HM:=Lib.hid (attrC_map al k y HY.out (fun a=>(a.1,rfix a.2)))
      clear hb7 hk8 ho8 hb8 e2 ef
      go_wp2_with fail
      refine⟨⟨k+1,va,sl'+1,vc,by omega,by have:=HSl.out;omega,by first | rfl | simp,?_,?_,?_,?_⟩,by simp only [intN];omega⟩
      ·intro j z hj hz
       by_cases e:j=k
       ·subst e
        rw [HY.out] at hz;cases hz
        exact⟨HHx.out,fun k' z' hk' hz'=>HNo.out k' z' hk' hz'⟩
       ·exact HNm.out j z (by omega) hz
      ·exact HK8.out
      ·rw [HM.out];exact HO8.out
      ·exact HB8.out
  ·obtain rfl:i=al.length:=by omega
   rw [List.take_length] at HOr
   have hsl3:=HSl.out
   subst hsl3
   have HAL:=Lib.hid (show(al.map fun a=>(a.1,rfix a.2)).length=al.length from List.length_map _)
   have HRy:=Lib.hid (HR.out (by rw [namesB_yes HNm.out,HEx.out];rfl))
   generalize (al.map fun a=>(a.1,rfix a.2))=AL at *
   clear HR
   have HR:=HRy
   clear HRy
   obtain⟨⟨b0,b1,b2,b3,b4,b5,b6⟩,zf⟩:=nd_cells7 (show Blk _ _ [_,_,_,_,_,_,_] _ from HKr.out)
   have hne:∀b,(Value.slice sa al.length sc).ownBlock=some b→b≠w.heap.size:=fun b hb e=>by
    obtain⟨cur,hcur⟩:=own_blk (show Own wr _ _ _ _ _ from own_low HOr.out (Nat.zero_le _)) hb
    subst e
    exact blk_ne hcur HKr.out (by decide) rfl
   go_upto_region 18 with fail
   generalize hr0:w.heap.size=r at *
   have k3:=HKr.out.set 1 (.string ⟨name.toArray⟩)
   simp only [nC2,List.set_cons_succ,List.set_cons_zero] at k3
   have hsv3:=Lib.hid (own_kB HOr.out (w':=wr.setCell ⟨r,1,none⟩ (.string ⟨name.toArray⟩)) (fun b hb=>Below.heap_setCell _ _ _ _ (hne b hb)))
   have H2:MdAt Q (.slice (some ⟨g,0,none⟩) X.length cap) X wr:=H0.out.below (by rw [hr0];exact HBr.out)
   have h3:MdAt Q (.slice (some ⟨g,0,none⟩) X.length cap) X (wr.setCell ⟨r,1,none⟩ (.string ⟨name.toArray⟩)):=(mdO Q (.slice (some ⟨g,0,none⟩) X.length cap) X).loc wr _ H2 (fun k' hk'=>Below.heap_setCell _ _ _ _ (fun e=>by
    have:=(mdO Q (.slice (some ⟨g,0,none⟩) X.length cap) X).here w H0.out k' hk'
    rw [show k'=r from e] at this;omega))
   have hch3:Chg (fun k=>k=r) wr (wr.setCell ⟨r,1,none⟩ (.string ⟨name.toArray⟩)):=(Chg.refl (fun k=>k=r) wr).setCell ⟨r,1,none⟩ (fun _=>(rfl:r=r)) _
   have hC3:Chg (fun k=>k=Q∨(Value.slice (some ⟨g,0,none⟩) X.length cap).ownBlock=some k) w (wr.setCell ⟨r,1,none⟩ (.string ⟨name.toArray⟩)):=(Chg.of_below (by rw [hr0];exact HBr.out)).trans hch3 (fun i hi e=>by rw [hr0] at hi;omega)
   clear b0 b1 b2 b3 b4 b5 b6 zf H2 hch3
   have hs3:r < (wr.setCell ⟨r,1,none⟩ (.string ⟨name.toArray⟩)).heap.size:=k3.lt
   generalize wr.setCell ⟨r,1,none⟩ (.string ⟨name.toArray⟩)=w3 at *
   obtain⟨⟨b0,b1,b2,b3,b4,b5,b6⟩,zf⟩:=nd_cells7 k3
   have q0:=h3.W.ptr
   have qz:=h3.W.blk.free
   have hQr:Q≠r:=by omega
   have hQl3:=h3.W.blk.lt
   have hbd:Below w3.heap.size w3 (w3.drew.alloc (.cells #[.int .i64 2,.string ⟨name.toArray⟩,.slice sa al.length sc,.string ⟨#[]⟩,.int .i64 (-1),.slice none 0 0,.bool false] 81)):=((Below.refl w3.heap.size w3).drew).alloc (Nat.le_refl _) _
   have HO:=Lib.hid (own_belowM h3.W.row hbd)
   have HS:=Lib.hid (own_at (n:=1) (size:=7) (Blk.new w3.drew [.int .i64 2,.string ⟨name.toArray⟩,.slice sa al.length sc,.string ⟨#[]⟩,.int .i64 (-1),.slice none 0 0,.bool false] 81) rfl (by omega))
   have H2:=Lib.hid (show ∀u∈([.int .i64 2,.string ⟨name.toArray⟩,.slice sa al.length sc,.string ⟨#[]⟩,.int .i64 (-1),.slice none 0 0,.bool false]:List Value),u.oneCell'=true from mx_one (x:=⟨newMN 2 name AL [],.slice sa al.length sc,.slice none 0 0⟩) ⟨_,_,_,rfl⟩ ⟨_,_,_,rfl⟩)
   have HQb:=Lib.hid (h3.W.blk.below hbd)
   have hQg:Q≠g:=fun e=>by
    have h1:=h3.W.blk
    obtain⟨cg,hg⟩:=own_blk h3.W.row (b:=g) rfl
    rw [e] at h1
    exact blk_ne h1 hg (by decide) rfl
   have HH3:=Lib.hid h3
   have HC3:=Lib.hid hC3
   clear h3 hC3 k3
   go_region_law (first
     | (refine step_append_B etN HO.out (Nat.zero_le _) HS.out H2.out (by omega) (by omega) (by rfl) _ _ (by rfl) (by rfl) (by rfl) ?_;intro v' w4 ho hgr hvb;
         obtain⟨va,vc,rfl⟩:=own_shapeB ho;have kb1:=HQb.out.kept (hgr.block Q HQb.out.lt (fun e=>by cases e;exact hQg rfl));have d0:=kb1.cell 0;have df:=kb1.free 0;simp only [List.getElem?_cons_zero] at d0;
         have kb:=Lib.hid kb1;have ks:=Lib.hid ho;have kg:=Lib.hid hgr;have kv:=Lib.hid hvb;clear ho hgr hvb kb1))
   all_goals
    go_wp2_with fail
    go_ret
    have hc4:Chg (fun k=>k=Q∨(Value.slice (some ⟨g,0,none⟩) X.length cap).ownBlock=some k) w3 w4:=((Chg.of_below hbd).grown kg.out (fun k e _=>.inr e))
    have hc5:=(HC3.out.trans hc4 (fun _ _ h=>h)).setCell ⟨Q,0,none⟩ (fun _=>.inl rfl) (.slice va (X.length+1) vc)
    obtain⟨g',hg'⟩:∃g',va=some ⟨g',0,none⟩:=by
     rcases ks.out.2 with ⟨e,_⟩ | ⟨g',cap',cur,e,_⟩
     ·simp only [Value.slice.injEq] at e;omega
     ·simp only [Value.slice.injEq] at e;exact⟨g',e.1⟩
    subst hg'
    have hgQ':g'≠Q:=fun e=>by
     obtain⟨cur,hcur⟩:=own_blk (show Own w4 _ _ _ _ _ from ks.out) (b:=g') rfl
     exact blk_ne hcur kb.out (by decide) e
    have hm:=md_push H0.out ⟨newMN 2 name AL [],.slice sa al.length sc,.slice none 0 0⟩ hc5 (kb.out.set 0 (.slice (some ⟨g',0,none⟩) (X.length+1) vc)) (own_kB ks.out (fun b hb=>Below.heap_setCell _ _ _ _ (by cases hb;exact hgQ')))
     (kv.out.imp id (fun e b hb=>by rw [e] at hb;cases hb;exact Nat.le_trans HC3.out.size hbd.size)) (by
      have hal:AL.length=al.length:=HAL.out
      show Own _ _ _ _ AL.length _
      rw [hal]
      refine own_kB (own_kB (show w3.ownsRow 0 92 2 (.slice sa al.length sc) al.length (attrC AL) from own_low hsv3.out (Nat.zero_le _)) (w':=w4) (fun b hb=>hc4.block b (hsv3.out.lt b hb).2 (fun e=>?_))) (fun b hb=>Below.heap_setCell _ _ _ _ (fun e=>?_))
      ·obtain⟨cur,hcur⟩:=own_blk (show Own w3 _ _ _ _ _ from own_low hsv3.out (Nat.zero_le _)) hb
       rcases e with e | e
       ·subst e;exact blk_ne hcur HH3.out.W.blk (by decide) rfl
       ·obtain⟨cg,hg⟩:=own_blk HH3.out.W.row e;exact blk_ne hcur hg (by decide) rfl
      ·have:=(hsv3.out.lt b hb).1
       rw [show b=Q from e] at this
       omega) (World.ownsRow_nil _ _ _ _) (fun b hb=>by rw [hr0];exact(hsv3.out.lt b hb).1) (fun b hb=>by cases hb)
    refine⟨X ++ [⟨newMN 2 name AL [],.slice sa al.length sc,.slice none 0 0⟩],g',vc,0,?_,rfl,?_⟩
    ·unfold ms;rw [List.map_append];exact HR.out
    ·rw [List.length_append];exact hm
end Go.Proofs.YtfelmdkeaacfeaaGreatDoor.W
end
