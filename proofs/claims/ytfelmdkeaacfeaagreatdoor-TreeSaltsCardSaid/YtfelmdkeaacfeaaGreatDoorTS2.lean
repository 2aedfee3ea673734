/- Texts joined: Make DeepL LwM Sam SamW MFn. -/
import Derived.Test.YtfelmdkeaacfeaaGreatDoorTS1
import Derived.Deep.CutBlock
set_option maxRecDepth 100000
set_option maxHeartbeats 40000000
set_option linter.unusedVariables false
set_option linter.unusedSimpArgs false
section
namespace Go.Proofs.YtfelmdkeaacfeaaGreatDoor.W
open Go.RowKit
theorem make_one {B R:Nat}{S:Tr}{sv fv:Value}{w:World}(h:TAt B R S sv fv w)(hf:S.free=[])(hl:S.slots.length < 20000)(c:UInt8)(hc:Ltr c) :
  Calls Tryz.prog 39 #[.pointer (some ⟨R,0,none⟩),.int .i64 2,.string ⟨#[c]⟩,.string ⟨#[]⟩,.slice none 0 0] w fun e w'=>∃sv',e=.returned (.tuple #[.int .i64 (S.hd S.slots.length),.int .i64 0]) ∧
   TAt B R (S.snoc (newN 2 [c])) sv' fv w'∧Chg (fun k=>k=R∨sv.ownBlock=some k) w w'∧(sv'.ownBlock=sv.ownBlock∨∃k,sv'.ownBlock=some k∧w.heap.size≤k):=by
 have HE:=Lib.hid (elementName_one c hc)
 have HT:=Lib.hid h
 have hlv:S.live≤S.slots.length:=List.length_filter_le _ _
 have hlt:=h.blk.lt
 clear h hc
 go_enter Tryz.func39,Tryz.ntmps39
 go_wp2_with fail
 have hb0:=(Below.refl w.heap.size w).alloc (Nat.le_refl _) (.cells #[.int .i64 2,.string ⟨#[]⟩,.slice none 0 0,.string ⟨#[]⟩,.int .i64 0,.int .i64 0,.int .i64 0,.int .i64 0,.int .i64 0] 62)
 have hx0:=Blk.new w [.int .i64 2,.string ⟨#[]⟩,.slice none 0 0,.string ⟨#[]⟩,.int .i64 0,.int .i64 0,.int .i64 0,.int .i64 0,.int .i64 0] 62
 have HB0:=Lib.hid hb0
 have HX0:=Lib.hid (show Blk (w.alloc (.cells #[.int .i64 2,.string ⟨#[]⟩,.slice none 0 0,.string ⟨#[]⟩,.int .i64 0,.int .i64 0,.int .i64 0,.int .i64 0,.int .i64 0] 62)) _ _ _ from hx0)
 clear hb0 hx0
 generalize w.alloc (.cells #[.int .i64 2,.string ⟨#[]⟩,.slice none 0 0,.string ⟨#[]⟩,.int .i64 0,.int .i64 0,.int .i64 0,.int .i64 0,.int .i64 0] 62)=w1 at *
 refine(HE.out _).mono ?_
 rintro e w2 ⟨rfl,hb2⟩
 go_wp2_with fail
 refine(attrs_nil _).mono ?_
 rintro e w3 ⟨rfl,hb3⟩
 have hb13:=bthen hb2 hb3
 have hx3:=HX0.out.below hb13
 have c1:=hx3.cell 1
 simp only [zzD,zzE] at c1
 have f1:=hx3.free 1
 have HX3:=Lib.hid (hx3.set 1 (.string ⟨#[c]⟩))
 have hB3:=HB0.out.trans (hb13.mono HB0.out.size)
 have hB4:=hB3.setCell (p:=⟨w.heap.size,1,none⟩) (Nat.le_refl _) (.string ⟨#[c]⟩)
 have HB4:=Lib.hid hB4
 clear hx3 hb2 hb3 hb13 hB3 hB4
 go_upto_region 8 with fail
 clear c1 f1
 generalize w3.setCell ⟨w.heap.size,1,none⟩ (.string ⟨#[c]⟩)=w4 at *
 go_wp2_with fail
 go_loopw [32] (fun iv wr=>iv=.int .i64 0∧wr=w4) (fun _ _=>0)
 case atStart=>exact⟨rfl,rfl⟩
 case round =>
  obtain⟨rfl,rfl⟩:=hrel
  have hT4:=HT.out.below HB4.out
  have HL:=Lib.hid (len_any hT4)
  have x2:=HX3.out.cell 2
  have x3:=HX3.out.cell 3
  simp only [List.set_cons_succ,List.set_cons_zero,zzD,zzE] at x2 x3
  have HT4:=Lib.hid hT4
  clear hT4
  have d1:decide ((20000:Int)≤(S.live:Int))=false:=by simp;omega
  go_wp2_with fail
  refine HL.out.mono ?_
  rintro e w5 ⟨rfl,hw⟩
  rw [hw]
  clear hw
  go_wp2_with fail
  refine(long_any ⟨#[]⟩ (by show 0≤_;omega) _).mono ?_
  rintro e w6 ⟨rfl,hw⟩
  rw [hw,show decide (1048576 < (⟨#[]⟩:ByteArray).size)=false from rfl]
  clear hw
  go_wp2_with fail
  refine(containsFunc_nil _ _).mono ?_
  rintro e w7 ⟨rfl,hw⟩
  rw [hw]
  clear hw d1 x2 x3
  go_upto_region 18 with fail
  have hne:=stb_ne wr
  have hgl:=HX3.out.lt
  have xs:=fun(x:InS (StB wr))=>HX3.out.below x.h
  simp only [List.set_cons_succ,List.set_cons_zero] at xs
  have z0:=fun x=>(xs x).cell 0
  have z1:=fun x=>(xs x).cell 1
  have z2:=fun x=>(xs x).cell 2
  have z3:=fun x=>(xs x).cell 3
  have z4:=fun x=>(xs x).cell 4
  have z5:=fun x=>(xs x).cell 5
  have z6:=fun x=>(xs x).cell 6
  have z7:=fun x=>(xs x).cell 7
  have z8:=fun x=>(xs x).cell 8
  simp only [zzD,zzE] at z0 z1 z2 z3 z4 z5 z6 z7 z8
  have HTX:=Lib.hid (fun w9 (hb:Below wr.heap.size wr w9)=>add_new (HT4.out.below hb) hf (by omega) (newN 2 [c]) ⟨none,0,rfl,.inl rfl⟩)
  clear xs
  refine reg_b (fun _=>undef) 4 (by kernel_rfl) (by kernel_rfl) ?_
  simp only [zzF,zzG,zzH,zzI]
  repeat (first
   | (refine m_held (by rfl) (by rfl) (fun K hK=>?_);go_big_quiet_step (fail);refine wpQuiet_nil ?_;refine hK.out _ ?_;clear hK K)
   | (refine m_skip (by rfl) ?_;simp only [Act.put,zzA,zzB,zzC]))
  refine m_nil ?_
  intro w8 h8
  clear z0 z1 z2 z3 z4 z5 z6 z7 z8 hne
  go_wp2_with fail
  refine(HTX.out _ h8).mono ?_
  rintro e w9 ⟨sv',rfl,hT9,hC9,hsv⟩
  have H9:=Lib.hid hT9
  have HC:=Lib.hid hC9
  have HS:=Lib.hid hsv
  clear hT9 hC9 hsv
  go_wp2_with fail
  go_ret2
  have h8':Below w.heap.size w w8:=HB4.out.trans (h8.mono HB4.out.size)
  refine⟨sv',rfl,H9.out,(Chg.of_below h8').trans HC.out (fun _ _ h=>h),?_⟩
  rcases HS.out with e | ⟨k,e,hk⟩
  ·exact .inl e
  ·exact .inr ⟨k,e,Nat.le_trans h8'.size hk⟩
end Go.Proofs.YtfelmdkeaacfeaaGreatDoor.W
end
section
namespace Go.Proofs.YtfelmdkeaacfeaaGreatDoor.W
open Go.RowKit
theorem TAt.sl {B R:Nat}{S:Tr}{sv fv:Value}{w:World}(h:TAt B R S sv fv w)(hn:0 < S.slots.length):∃g cap,sv=.slice (some ⟨g,0,none⟩) S.slots.length cap:=slots_some h hn
theorem chg_low {B R:Nat}{S:Tr}{sv fv:Value}{w0 w w':World}(h:TAt B R S sv fv w)(hb:Below B w0 w)(k:Chg (fun k=>k=R∨sv.ownBlock=some k) w w'):Below B w0 w' :=
 hb.trans (k.below (Nat.le_trans h.base (Nat.le_of_lt h.blk.lt)) (fun j hj=>by
  rcases hj with rfl | e
  ·exact h.base
  ·exact(h.slots.lt j e).1))
theorem chg_low1 {B R g cap:Nat}{S:Tr}{fv:Value}{w0 w w':World}(h:TAt B R S (.slice (some ⟨g,0,none⟩) S.slots.length cap) fv w)(hb:Below B w0 w)(k:Chg (fun k=>k=g) w w'):Below B w0 w' :=
 hb.trans (k.below (Nat.le_trans h.base (Nat.le_of_lt h.blk.lt)) (fun j hj=>by subst hj;exact(h.slots.lt j rfl).1))
theorem awake_any (w:World):Calls Tryz.prog 10 #[] w fun e w'=>e=.returned (.bool true)∧Below w.heap.size w w':=by
 go_enter Tryz.func10,Tryz.ntmps10
 go_wp2_with fail
 refine(tree_new 0 0 w).mono ?_
 rintro e w1 ⟨R,sv,rfl,hT1,hb1⟩
 have HM:=Lib.hid (make_one hT1 rfl (by simp [newT]) 112 ltr_p)
 have HB1:=Lib.hid hb1
 have HT1:=Lib.hid hT1
 clear hb1 hT1
 go_wp2_with fail
 refine HM.out.mono ?_
 rintro e w2 ⟨sv2,rfl,hT2,hC2,_⟩
 obtain⟨g,cap,rfl⟩:=hT2.sl (by rw [snoc_len];omega)
 have hB2:=chg_low HT1.out HB1.out hC2
 have h0:=start_c1 0 0
 obtain⟨a1,a2,a3,a4,a5,a6,a7⟩:=C1.made ltr_p h0 (by omega)
 have hlk:=C1.lk ltr_p h0 (by omega) (by omega)
 obtain⟨np,hp⟩:=Option.isSome_iff_exists.1 a2
 have HI:=Lib.hid (insert_end hT2 a1.lk 0 1 np _ hp a7 a4 a5 (C1.may ltr_p h0 (by omega) hp a7) (by rw [a3,hgt_leaf a6];decide) hlk)
 have r5:=hT2.blk.cell 5
 simp only [zzD,zzE] at r5
 have HT2:=Lib.hid hT2
 have HB2:=Lib.hid hB2
 clear hT2 hB2 hC2 h0 a1 a2 a3 a4 a5 a6 a7 hlk hp HM HT1
 go_wp2_with fail
 refine HI.out.mono ?_
 rintro e w3 ⟨S',v,hlk,rfl,hrc,hT3,hC3⟩
 have hB3:=chg_low1 HT2.out HB2.out hC3
 obtain⟨gr,cr,rfl,_⟩:=own_some (own_low hrc (Nat.zero_le _)) (by simp)
 have k0:=hrc.cells (g:=gr) rfl 0 (.int .i64 1) rfl
 rw [show(⟨gr,0,none⟩:Addr).add 0=⟨gr,0,none⟩ by unfold Addr.add;split <;> simp_all] at k0
 have e2:(newT 0 0).hd (newT 0 0).slots.length=2:=by decide
 have HB3:=Lib.hid hB3
 simp only [e2,List.length_singleton,List.length_cons,List.length_nil]
 clear hrc hT3 hC3 hlk HI r5 HT2 e2 hB3
 go_wp2_with fail
 go_ret
 exact⟨rfl,HB3.out⟩
end Go.Proofs.YtfelmdkeaacfeaaGreatDoor.W
end
section
namespace Go.Proofs.YtfelmdkeaacfeaaGreatDoor.W
open Go.RowKit
theorem InP.below {w w':World}{A:Option Addr}{n:Nat}{f:Nat→OpV}(h:InP w A n f)(hb:Below w.heap.size w w'):InP w' A n f:=fun hn=>by
 obtain⟨b,off,e,hl,hc⟩:=h hn
 refine⟨b,off,e,Nat.lt_of_lt_of_le hl hb.size,fun j hj=>?_⟩
 obtain⟨h0,h1,h2,h3,h4,h5,h6,h7⟩:=hc j hj
 exact⟨cell_keep hb h0,cell_keep hb h1,cell_keep hb h2,cell_keep hb h3,cell_keep hb h4,cell_keep hb h5,cell_keep hb h6,cell_keep hb h7⟩
theorem OpV.In.ok {o:OpV}(h:o.In)(h1:o.s.length≤40∧o.t.length≤40):o.Ok:=⟨h.k,h.a,h.b,h.c,h1.1,h1.2,h.n,h.kk⟩
end Go.Proofs.YtfelmdkeaacfeaaGreatDoor.W
end
section
namespace Go.Proofs.YtfelmdkeaacfeaaGreatDoor.W
open Go.RowKit
def EfR (w:World)(B1 B2:Nat)(f:Nat→Nat→Bool)(la lb:List Nat)(ha hb:Nat→Int)(v1 v2:Value)(iv:Value)(wr:World):Prop :=
 ∃k:Nat,k≤la.length∧iv=.int .i64 (k:Int)∧(∀(j x y:Nat),j < k→la[j]? = some x→lb[j]? = some y→f x y=true)∧wr.ownsRow B1 3 1 v1 la.length (hC (la.map ha))∧wr.ownsRow B2 3 1 v2 lb.length (hC (lb.map hb))∧Below w.heap.size w wr
theorem equalFunc_any {B1 B2:Nat}{w:World}(f:Nat→Nat→Bool)(la lb:List Nat)(ha hb:Nat→Int){v1 v2:Value}(b4 b6:Nat)(h1:w.ownsRow B1 3 1 v1 la.length (hC (la.map ha)))(h2:w.ownsRow B2 3 1 v2 lb.length (hC (lb.map hb)))(hl:la.length≤1000000)(hl2:lb.length≤1000000)
  (hf:∀(j x y:Nat),la[j]? = some x→lb[j]? = some y→∀wx,Below w.heap.size w wx→Calls Tryz.prog 79 #[.int .i64 (ha x),.int .i64 (hb y),.pointer (some ⟨b4,0,none⟩),.pointer (some ⟨b6,0,none⟩)] wx fun e w'=>e=.returned (.bool (f x y))∧Below wx.heap.size wx w') :
  Calls Tryz.prog 78 #[v1,v2,.func (.func 79) #[] #[.pointer (some ⟨b4,0,none⟩),.pointer (some ⟨b6,0,none⟩)]] w fun e w'=>e=.returned (.bool (all2 f la lb))∧Below w.heap.size w w':=by
 obtain⟨a1,c1,rfl⟩:=own_shapeB h1
 obtain⟨a2,c2,rfl⟩:=own_shapeB h2
 have H1:=Lib.hid h1
 have H2:=Lib.hid h2
 have HF:=Lib.hid hf
 clear h1 h2 hf
 by_cases hlen:la.length=lb.length
 ·have HL:=Lib.hid hlen
  go_enter Tryz.func78,Tryz.ntmps78
  go_wp2_with fail
  go_loopw [17] (fun iv wr=>EfR w B1 B2 f la lb ha hb (.slice a1 la.length c1) (.slice a2 lb.length c2) iv wr) (fun iv _=>la.length - (intOf iv).toNat)
  case atStart=>exact⟨0,Nat.zero_le _,rfl,fun j x y h=>absurd h (by omega),H1.out,H2.out,Below.refl _ _⟩
  case round =>
   obtain⟨k,hk,rfl,htr,ho1,ho2,hB⟩:=hrel
   by_cases hkl:k < la.length
   ·obtain⟨x,hx⟩:∃x,la[k]? = some x:=⟨_,List.getElem?_eq_getElem hkl⟩
    obtain⟨y,hy⟩:∃y,lb[k]? = some y:=⟨_,List.getElem?_eq_getElem (by omega)⟩
    obtain⟨g1,k1,he,q1⟩:=own_int ho1 (x:=ha x) (j:=k) (by rw [List.getElem?_map,hx];rfl)
    simp only [Value.slice.injEq,true_and] at he
    obtain⟨rfl,rfl⟩:=he
    obtain⟨g2,k2,he,q2⟩:=own_int ho2 (x:=hb y) (j:=k) (by rw [List.getElem?_map,hy];rfl)
    simp only [Value.slice.injEq,true_and] at he
    obtain⟨rfl,rfl⟩:=he
    have z1:=World.block_lt_of_cell? wr ⟨g1,k,none⟩ q1
    have z2:=World.block_lt_of_cell? wr ⟨g2,k,none⟩ q2
    have HC:=Lib.hid (HF.out k x y hx hy wr hB)
    have HX:=Lib.hid (show f x y=false→all2 f la lb=false from all2_false f la lb k x y hx hy)
    have HY:=Lib.hid (show f x y=true→∀(j a b:Nat),j < k+1→la[j]? = some a→lb[j]? = some b→f a b=true from fun hh j a b hj h1 h2=>by
     by_cases e:j=k
     ·subst e;rw [hx] at h1;rw [hy] at h2;cases h1;cases h2;exact hh
     ·exact htr j a b (by omega) h1 h2)
    have HO1:=Lib.hid ho1
    have HO2:=Lib.hid ho2
    have HB:=Lib.hid hB
    have hlb:k < lb.length:=by omega
    clear hx hy htr ho1 ho2 hB hlen
    generalize ha x=hx1 at *
    generalize hb y=hy1 at *
    cases hfx:f x y with
    | false =>
     have HX:=HX.out hfx
     rw [hfx] at HC
     have HX:=Lib.hid HX
     go_wp2_with fail
     refine HC.out.mono ?_
     rintro e w2 ⟨rfl,hb2⟩
     have HB2:=Lib.hid (bthen HB.out hb2)
     have HE:=HX
     clear hb2
     go_wp2_with fail
     go_ret
     exact⟨by rw [HE.out];rfl,HB2.out⟩
    | true =>
     have HY:=HY.out hfx
     rw [hfx] at HC
     have HY:=Lib.hid HY
     go_wp2_with fail
     refine HC.out.mono ?_
     rintro e w2 ⟨rfl,hb2⟩
     have HB2:=Lib.hid (bthen HB.out hb2)
     have HR1:=Lib.hid (own_keepB HO1.out hb2)
     have HR2:=Lib.hid (own_keepB HO2.out hb2)
     have HE:=HY
     clear hb2
     go_wp2_with fail
     exact⟨⟨k+1,by omega,by go_num,HE.out,HR1.out,HR2.out,HB2.out⟩,by simp [intOf];omega⟩
   ·obtain rfl:k=la.length:=by omega
    have HE:=Lib.hid (all2_true f la lb HL.out (fun j x y h1 h2=>htr j x y (List.getElem?_eq_some_iff.1 h1).1 h1 h2))
    have HB:=Lib.hid hB
    clear ho1 ho2 hB htr
    go_wp2_with fail
    go_ret
    exact⟨by rw [HE.out];rfl,HB.out⟩
 ·have HE:=Lib.hid (all2_len f la lb hlen)
  have hd:decide ((la.length:Int)=(lb.length:Int))=false:=by simp;omega
  have hd2:((la.length:Int) == (lb.length:Int))=false:=by simp;omega
  clear H1 H2 HF
  go_enter Tryz.func78,Tryz.ntmps78
  go_wp2_with fail
  go_ret
  exact⟨by rw [HE.out];rfl,Below.refl _ _⟩
def SamePost (S S2:Tr)(K K2:Nat→List Nat)(f a b:Nat)(wx:World)(e:Ending)(w':World):Prop:=e=.returned (.bool (sameB S S2 K K2 f a b))∧Below wx.heap.size wx w'
theorem same1_any {S S2:Tr}{K K2:Nat→List Nat}{w:World}{R R2 b4 b6 f a b:Nat}{x y:Int}(h4:Blk w b4 [.pointer (some ⟨R,0,none⟩)] 29)(h6:Blk w b6 [.pointer (some ⟨R2,0,none⟩)] 29)
  (HS:Calls Tryz.prog 31 #[.pointer (some ⟨R,0,none⟩),.int .i64 x,.pointer (some ⟨R2,0,none⟩),.int .i64 y] w (SamePost S S2 K K2 f a b w)) :
  Calls Tryz.prog 79 #[.int .i64 x,.int .i64 y,.pointer (some ⟨b4,0,none⟩),.pointer (some ⟨b6,0,none⟩)] w (SamePost S S2 K K2 f a b w):=by
 have c4:=h4.cell 0
 have c6:=h6.cell 0
 simp only [List.getElem?_cons_zero] at c4 c6
 have H:=Lib.hid HS
 clear HS h4 h6
 go_enter Tryz.func79,Tryz.ntmps79
 go_wp2_with fail
 refine H.out.mono ?_
 rintro e w2 ⟨rfl,hb⟩
 go_wp2_with fail
 go_ret
 exact⟨rfl,hb⟩
end Go.Proofs.YtfelmdkeaacfeaaGreatDoor.W
end
section
namespace Go.Proofs.YtfelmdkeaacfeaaGreatDoor.W
open Go.RowKit
def SmF (W:World)(na nb:Nat)(xa xb:List Value):List Value→World→Prop
 | [v1],w'=>w'.ownsRow W.heap.size 3 1 v1 na xa
 | [v2,v1],w'=>w'.ownsRow W.heap.size 3 1 v1 na xa∧w'.ownsRow W.heap.size 3 1 v2 nb xb
 | _,_=>True
def SmV (na nb:Nat)(b:Bool):List Value→Value→Prop
 | [],v=>∃a c,v=.slice a na c
 | [_],v=>∃a c,v=.slice a nb c
 | _,v=>v=.bool b
theorem SmF.below {W:World}{na nb:Nat}{xa xb:List Value}(k:List Value)(w1 w2:World)(h:SmF W na nb xa xb k w1)(hb:Below w1.heap.size w1 w2):SmF W na nb xa xb k w2:=by
 match k,h with
 | [],_=>trivial
 | [v1],h=>exact own_keepB h hb
 | [v2,v1],h=>exact⟨own_keepB h.1 hb,own_keepB h.2 hb⟩
 | _ :: _ :: _ :: _,_=>trivial
theorem same_none {B R B2 R2:Nat}{S S2:Tr}{sv fv sv2 fv2:Value}{w:World}(h1:TAt B R S sv fv w)(h2:TAt B2 R2 S2 sv2 fv2 w)(x y:Int)(hx:HOk x)(hy:HOk y)(kx:S.ix x=none)(ky:S2.ix y=none) :
  Calls Tryz.prog 31 #[.pointer (some ⟨R,0,none⟩),.int .i64 x,.pointer (some ⟨R2,0,none⟩),.int .i64 y] w fun e w'=>e=.returned (.bool false)∧Below w.heap.size w w':=by
 have H1:=Lib.hid (fun wx (hb:Below w.heap.size w wx)=>at_none (h1.below hb) x hx kx)
 have H2:=Lib.hid (fun wx (hb:Below w.heap.size w wx)=>at_none (h2.below hb) y hy ky)
 clear h1 h2 kx ky
 have k4:=Blk.new w [.pointer (some ⟨R,0,none⟩)] 29
 have hb1:=(Below.refl w.heap.size w).alloc (Nat.le_refl _) (.cells #[.pointer (some ⟨R,0,none⟩)] 29)
 go_enter Tryz.func31,Tryz.ntmps31
 go_upto_region 1 with fail
 have hs1:(w.alloc (.cells #[.pointer (some ⟨R,0,none⟩)] 29)).heap.size=w.heap.size+1:=by simp
 have k6:=Blk.new (w.alloc (.cells #[.pointer (some ⟨R,0,none⟩)] 29)) [.pointer (some ⟨R2,0,none⟩)] 29
 have k4':=k4.alloc (.cells #[.pointer (some ⟨R2,0,none⟩)] 29)
 have hb2:=hb1.alloc (by simp) (.cells #[.pointer (some ⟨R2,0,none⟩)] 29)
 rw [hs1] at k6
 generalize ((w.alloc (.cells #[.pointer (some ⟨R,0,none⟩)] 29)).alloc (.cells #[.pointer (some ⟨R2,0,none⟩)] 29))=w1 at *
 have c4:∀x:InS (StB w1),x.w.cell? ⟨w.heap.size,0,none⟩=some (.pointer (some ⟨R,0,none⟩)):=fun x=>(k4'.below x.h).cell 0
 have c6:∀x:InS (StB w1),x.w.cell? ⟨w.heap.size+1,0,none⟩=some (.pointer (some ⟨R2,0,none⟩)):=fun x=>(k6.below x.h).cell 0
 have hne:=stb_ne w1
 have HB2:=Lib.hid hb2
 clear k4 k4' k6 hb1 hb2
 refine reg_f (fun _ _=>True) (fun _ v=>v=.pointer none) 8 (by kernel_rfl) (by kernel_rfl) (fun _ _ _ _ _=>trivial) trivial ?_
 simp only [zzF,zzG,zzH,zzI]
 repeat (first
  | (refine RV.m_held (by rfl) (by rfl) (fun K hK=>?_);go_big_quiet_step (fail);refine wpQuiet_nil ?_;refine hK.out _ ?_;clear hK K)
  | (refine RV.m_skip (by rfl) ?_;simp only [Act.put,zzA,zzB,zzC]))
 refine RV.m_call (by rfl) (by rfl) (fun w=>by go_simp;exact⟨rfl,rfl⟩) (⟨_,rfl⟩) (fun X wx hx=>?_) (fun v hv=>?_)
 ·refine(H1.out _ (bthen HB2.out hx.1)).mono ?_
  rintro e wy ⟨rfl,hb⟩
  exact⟨_,rfl,rfl,bthen hx.1 hb,trivial⟩
 obtain rfl:v=.pointer none:=hv
 simp only [Act.put,zzA,zzB,zzC]
 repeat (first
  | (refine RV.m_held (by rfl) (by rfl) (fun K hK=>?_);go_big_quiet_step (fail);refine wpQuiet_nil ?_;refine hK.out _ ?_;clear hK K)
  | (refine RV.m_skip (by rfl) ?_;simp only [Act.put,zzA,zzB,zzC]))
 refine RV.m_call (by rfl) (by rfl) (fun w=>by go_simp;exact⟨rfl,rfl⟩) (⟨_,rfl⟩) (fun X wx hx=>?_) (fun v hv=>?_)
 ·refine(H2.out _ (bthen HB2.out hx.1)).mono ?_
  rintro e wy ⟨rfl,hb⟩
  exact⟨_,rfl,rfl,bthen hx.1 hb,trivial⟩
 obtain rfl:v=.pointer none:=hv
 simp only [Act.put,zzA,zzB,zzC]
 repeat (first
  | (refine RV.m_held (by rfl) (by rfl) (fun K hK=>?_);go_big_quiet_step (fail);refine wpQuiet_nil ?_;refine hK.out _ ?_;clear hK K)
  | (refine RV.m_skip (by rfl) ?_;simp only [Act.put,zzA,zzB,zzC]))
 refine RV.m_nil ?_
 intro w2 hb2 _
 have HB3:=Lib.hid (bthen HB2.out hb2)
 clear c4 c6 hne hb2
 go_wp2_with fail
 go_quiet (fail)
 go_wp2_with fail
 go_ret
 exact⟨rfl,Below.drewN HB3.out _⟩
def SameAt (B R B2 R2:Nat)(S S2:Tr)(sv fv sv2 fv2:Value)(K K2:Nat→List Nat)(d:Nat→Nat)(f:Nat):Prop :=
 ∀(w:World),TAt B R S sv fv w→TAt B2 R2 S2 sv2 fv2 w→∀(a b:Nat) (na nb:Nd),S.at a=some na→S2.at b=some nb→128 - d a=f →
  Calls Tryz.prog 31 #[.pointer (some ⟨R,0,none⟩),.int .i64 (S.hd a),.pointer (some ⟨R2,0,none⟩),.int .i64 (S2.hd b)] w (SamePost S S2 K K2 f a b w)
theorem sameB_eq {S S2:Tr}{K K2:Nat→List Nat}{f a b:Nat}{n m:Nd}(ha:S.at a=some n)(hb:S2.at b=some m)(g:Nat→Nat→Bool)(hg:∀x∈K a,∀y,f≠0→g x y=sameB S S2 K K2 (f - 1) x y)(h0:f=0→K a=[]):sameB S S2 K K2 f a b=(sameN n m && all2 g (K a) (K2 b)):=by
 have key:∀(g':Nat→Nat→Bool) (l:List Nat),(∀x∈l,∀y,g x y=g' x y)→∀m:List Nat,all2 g l m=all2 g' l m:=by
  intro g' l
  induction l with
  | nil=>intro _ m;cases m <;> rfl
  | cons x l ih =>
   intro h m
   cases m with
   | nil=>rfl
   | cons y m =>
    show(g x y && all2 g l m)=(g' x y && all2 g' l m)
    rw [h x (by simp) y,ih (fun z hz=>h z (by simp [hz])) m]
 cases f with
 | zero =>
  rw [sameB,ha,hb]
  simp only []
  rw [h0 rfl]
  cases K2 b <;> rfl
 | succ f =>
  rw [sameB,ha,hb]
  simp only []
  rw [key (sameB S S2 K K2 f) (K a) (fun x hx y=>hg x hx y (by omega))]
theorem same_step {B R B2 R2:Nat}{S S2:Tr}{sv fv sv2 fv2:Value}{K K2:Nat→List Nat}{d d2:Nat→Nat}(L1:Lk S K d)(L2:Lk S2 K2 d2)(hl1:∀x m,S.at x=some m→m.attrs.length≤1000)(hl2:∀x m,S2.at x=some m→m.attrs.length≤1000)
  (f:Nat)(ih:f≠0→SameAt B R B2 R2 S S2 sv fv sv2 fv2 K K2 d (f - 1)):SameAt B R B2 R2 S S2 sv fv sv2 fv2 K K2 d f:=by
 intro w h1 h2 a b na' nb' hna hnb hf
 obtain⟨g,cap,rfl⟩:=slots_some h1 (by have:=at_lt hna;omega)
 obtain⟨g2,cap2,rfl⟩:=slots_some h2 (by have:=at_lt hnb;omega)
 have H1:=Lib.hid (fun wx (hb:Below w.heap.size w wx)=>at_some (h1.below hb) (S.hd a) (hd_ok L1 hna).1 (hd_ix L1 hna))
 have H2:=Lib.hid (fun wx (hb:Below w.heap.size w wx)=>at_some (h2.below hb) (S2.hd b) (hd_ok L2 hnb).1 (hd_ix L2 hnb))
 have HA:=Lib.hid (fun wx (hb:Below w.heap.size w wx) j (hj:j < 9)=>nd_cell (h1.below hb) hna j hj)
 have HBn:=Lib.hid (fun wx (hb:Below w.heap.size w wx) j (hj:j < 9)=>nd_cell (h2.below hb) hnb j hj)
 have HE:=Lib.hid (fun wx (hb:Below w.heap.size w wx)=>equal_attr ((h1.below hb).attrs a na' (at_slot hna)) ((h2.below hb).attrs b nb' (at_slot hnb)) (hl1 a na' hna) (hl2 b nb' hnb))
 have HK1:=Lib.hid (fun wx (hb:Below w.heap.size w wx)=>kids_any (h1.below hb) L1 a na' hna)
 have HK2:=Lib.hid (fun wx (hb:Below w.heap.size w wx)=>kids_any (h2.below hb) L2 b nb' hnb)
 have hkl1:=kids_len L1 a
 have hkl2:=kids_len L2 b
 obtain⟨va,vc,hva,_⟩:=h1.attrs a na' (at_slot hna)
 obtain⟨vb,vd,hvb,_⟩:=h2.attrs b nb' (at_slot hnb)
 rw [hva,hvb] at HE
 have HIH:=Lib.hid (show ∀wx,Below w.heap.size w wx→∀x∈K a,∀y∈K2 b,Calls Tryz.prog 31 #[.pointer (some ⟨R,0,none⟩),.int .i64 (S.hd x),.pointer (some ⟨R2,0,none⟩),.int .i64 (S2.hd y)] wx (SamePost S S2 K K2 (f - 1) x y wx) from by
  intro wx hb x hx y hy
  obtain⟨nx,hnx⟩:=Option.isSome_iff_exists.1 (L1.kin a x hx).2
  obtain⟨ny,hny⟩:=Option.isSome_iff_exists.1 (L2.kin b y hy).2
  have h3:=L1.dep a x hx
  have h4:=L1.low x
  exact ih (by omega) wx (h1.below hb) (h2.below hb) x y nx ny hnx hny (by omega))
 have HR:=Lib.hid (sameB_eq (K:=K) (K2:=K2) (f:=f) hna hnb (sameB S S2 K K2 (f - 1)) (fun x _ y _=>rfl) (fun h0=>by
  cases e:K a with
  | nil=>rfl
  | cons k t =>
   have h3:=L1.dep a k (by rw [e];simp)
   have h4:=L1.low k
   omega))
 have k4:=Blk.new w [.pointer (some ⟨R,0,none⟩)] 29
 have hb1:=(Below.refl w.heap.size w).alloc (Nat.le_refl _) (.cells #[.pointer (some ⟨R,0,none⟩)] 29)
 have hgl:=(h1.slots.lt g rfl).2
 have hgl2:=(h2.slots.lt g2 rfl).2
 clear h1 h2 hna hnb ih
 go_enter Tryz.func31,Tryz.ntmps31
 go_upto_region 1 with fail
 have hs1:(w.alloc (.cells #[.pointer (some ⟨R,0,none⟩)] 29)).heap.size=w.heap.size+1:=by simp
 have k6:=Blk.new (w.alloc (.cells #[.pointer (some ⟨R,0,none⟩)] 29)) [.pointer (some ⟨R2,0,none⟩)] 29
 have k4':=k4.alloc (.cells #[.pointer (some ⟨R2,0,none⟩)] 29)
 have hb2:=hb1.alloc (by simp) (.cells #[.pointer (some ⟨R2,0,none⟩)] 29)
 rw [hs1] at k6
 generalize ((w.alloc (.cells #[.pointer (some ⟨R,0,none⟩)] 29)).alloc (.cells #[.pointer (some ⟨R2,0,none⟩)] 29))=w1 at *
 have c4:∀x:InS (StB w1),x.w.cell? ⟨w.heap.size,0,none⟩=some (.pointer (some ⟨R,0,none⟩)):=fun x=>(k4'.below x.h).cell 0
 have c6:∀x:InS (StB w1),x.w.cell? ⟨w.heap.size+1,0,none⟩=some (.pointer (some ⟨R2,0,none⟩)):=fun x=>(k6.below x.h).cell 0
 have hne:=stb_ne w1
 have HB2:=Lib.hid hb2
 have HQ4:=Lib.hid k4'
 have HQ6:=Lib.hid k6
 clear k4 k4' k6 hb1 hb2
 refine reg_f (fun _ _=>True) (fun k v=>v=if k=[] then .pointer (some (na g a)) else .pointer (some (na g2 b))) 8 (by kernel_rfl) (by kernel_rfl) (fun _ _ _ _ _=>trivial) trivial ?_
 simp only [zzF,zzG,zzH,zzI]
 repeat (first
  | (refine RV.m_held (by rfl) (by rfl) (fun K hK=>?_);go_big_quiet_step (fail);refine wpQuiet_nil ?_;refine hK.out _ ?_;clear hK K)
  | (refine RV.m_skip (by rfl) ?_;simp only [Act.put,zzA,zzB,zzC]))
 refine RV.m_call (by rfl) (by rfl) (fun w=>by go_simp;exact⟨rfl,rfl⟩) (⟨_,rfl⟩) (fun X wx hx=>?_) (fun v hv=>?_)
 ·refine(H1.out _ (bthen HB2.out hx.1)).mono ?_
  rintro e wy ⟨rfl,hb⟩
  exact⟨_,rfl,rfl,bthen hx.1 hb,trivial⟩
 obtain rfl:v=.pointer (some (na g a)):=by simpa using hv
 simp only [Act.put,zzA,zzB,zzC]
 repeat (first
  | (refine RV.m_held (by rfl) (by rfl) (fun K hK=>?_);go_big_quiet_step (fail);refine wpQuiet_nil ?_;refine hK.out _ ?_;clear hK K)
  | (refine RV.m_skip (by rfl) ?_;simp only [Act.put,zzA,zzB,zzC]))
 refine RV.m_call (by rfl) (by rfl) (fun w=>by go_simp;exact⟨rfl,rfl⟩) (⟨_,rfl⟩) (fun X wx hx=>?_) (fun v hv=>?_)
 ·refine(H2.out _ (bthen HB2.out hx.1)).mono ?_
  rintro e wy ⟨rfl,hb⟩
  exact⟨_,rfl,by simp,bthen hx.1 hb,trivial⟩
 obtain rfl:v=.pointer (some (na g2 b)):=by simpa using hv
 simp only [Act.put,zzA,zzB,zzC]
 repeat (first
  | (refine RV.m_held (by rfl) (by rfl) (fun K hK=>?_);go_big_quiet_step (fail);refine wpQuiet_nil ?_;refine hK.out _ ?_;clear hK K)
  | (refine RV.m_skip (by rfl) ?_;simp only [Act.put,zzA,zzB,zzC]))
 refine RV.m_nil ?_
 intro w2 hb2 _
 have HB3:=Lib.hid (bthen HB2.out hb2)
 have HP4:=Lib.hid (HQ4.out.below hb2)
 have HP6:=Lib.hid (HQ6.out.below hb2)
 have c0:=HA.out _ HB3.out 0 (by omega)
 have c1:=HA.out _ HB3.out 1 (by omega)
 have c2:=HA.out _ HB3.out 2 (by omega)
 have c3:=HA.out _ HB3.out 3 (by omega)
 have e0:=HBn.out _ HB3.out 0 (by omega)
 have e1:=HBn.out _ HB3.out 1 (by omega)
 have e2:=HBn.out _ HB3.out 2 (by omega)
 have e3:=HBn.out _ HB3.out 3 (by omega)
 simp only [ndC,zzD,zzE,strV,hva,hvb,Nat.add_zero] at c0 c1 c2 c3 e0 e1 e2 e3
 have hl2':=HB3.out.size
 have HEq:=Lib.hid (fun wx (hb:Below w2.heap.size w2 wx)=>HE.out _ (bthen HB3.out hb))
 clear c4 c6 hne hb2 HQ4 HQ6 H1 H2 HA HBn HE
 unfold na
 go_upto_region 2 with fail
 by_cases e1':na'.kind=nb'.kind
 case neg =>
  have hb1:(na'.kind == nb'.kind)=false:=by simpa using e1'
  have hb2:(na'.kind != nb'.kind)=true:=by simpa using e1'
  have HF:=Lib.hid (show sameB S S2 K K2 f a b=false from by rw [HR.out];unfold sameN;rw [hb1];simp)
  clear HR HIH HK1 HK2
  generalize (⟨na'.name.toArray⟩:ByteArray)=s1 at *
  generalize (⟨nb'.name.toArray⟩:ByteArray)=s2 at *
  generalize (⟨na'.data.toArray⟩:ByteArray)=s3 at *
  generalize (⟨nb'.data.toArray⟩:ByteArray)=s4 at *
  have hne:=stb_ne w2
  have x0:=fun(x:InS (StB w2))=>cell_keep x.h c0
  have x1:=fun(x:InS (StB w2))=>cell_keep x.h c1
  have x2:=fun(x:InS (StB w2))=>cell_keep x.h c2
  have x3:=fun(x:InS (StB w2))=>cell_keep x.h c3
  have u0:=fun(x:InS (StB w2))=>cell_keep x.h e0
  have u1:=fun(x:InS (StB w2))=>cell_keep x.h e1
  have u2:=fun(x:InS (StB w2))=>cell_keep x.h e2
  have u3:=fun(x:InS (StB w2))=>cell_keep x.h e3
  clear c0 c1 c2 c3 e0 e1 e2 e3
  refine reg_f (fun _ _=>True) (fun _ v=>v=.bool (na'.attrs == nb'.attrs)) 51 (by kernel_rfl) (by kernel_rfl) (fun _ _ _ _ _=>trivial) trivial ?_
  simp only [zzF,zzG,zzH,zzI]
  repeat (first
   | (refine RV.m_held (by rfl) (by rfl) (fun K hK=>?_);go_big_quiet_step (fail);refine wpQuiet_nil ?_;refine hK.out _ ?_;clear hK K)
   | (refine RV.m_skip (by rfl) ?_;simp only [Act.put,zzA,zzB,zzC]))
  refine RV.m_nil ?_
  intro w3 hb3 _
  have HB4:=Lib.hid (bthen HB3.out hb3)
  clear x0 x1 x2 x3 u0 u1 u2 u3 hne
  clear hb3
  go_wp2_with fail
  go_ret
  exact⟨by rw [HF.out];rfl,HB4.out⟩
 rw [e1'] at c0
 by_cases e2':na'.name=nb'.name
 case neg =>
  have hb1:(na'.name == nb'.name)=false:=by simpa using e2'
  have hb2:=bytes_ne e2'
  have HF:=Lib.hid (show sameB S S2 K K2 f a b=false from by rw [HR.out];unfold sameN;rw [hb1];simp)
  clear HR HIH HK1 HK2
  generalize (⟨na'.name.toArray⟩:ByteArray)=s1 at *
  generalize (⟨nb'.name.toArray⟩:ByteArray)=s2 at *
  generalize (⟨na'.data.toArray⟩:ByteArray)=s3 at *
  generalize (⟨nb'.data.toArray⟩:ByteArray)=s4 at *
  have hne:=stb_ne w2
  have x0:=fun(x:InS (StB w2))=>cell_keep x.h c0
  have x1:=fun(x:InS (StB w2))=>cell_keep x.h c1
  have x2:=fun(x:InS (StB w2))=>cell_keep x.h c2
  have x3:=fun(x:InS (StB w2))=>cell_keep x.h c3
  have u0:=fun(x:InS (StB w2))=>cell_keep x.h e0
  have u1:=fun(x:InS (StB w2))=>cell_keep x.h e1
  have u2:=fun(x:InS (StB w2))=>cell_keep x.h e2
  have u3:=fun(x:InS (StB w2))=>cell_keep x.h e3
  clear c0 c1 c2 c3 e0 e1 e2 e3
  refine reg_f (fun _ _=>True) (fun _ v=>v=.bool (na'.attrs == nb'.attrs)) 51 (by kernel_rfl) (by kernel_rfl) (fun _ _ _ _ _=>trivial) trivial ?_
  simp only [zzF,zzG,zzH,zzI]
  repeat (first
   | (refine RV.m_held (by rfl) (by rfl) (fun K hK=>?_);go_big_quiet_step (fail);refine wpQuiet_nil ?_;refine hK.out _ ?_;clear hK K)
   | (refine RV.m_skip (by rfl) ?_;simp only [Act.put,zzA,zzB,zzC]))
  refine RV.m_nil ?_
  intro w3 hb3 _
  have HB4:=Lib.hid (bthen HB3.out hb3)
  clear x0 x1 x2 x3 u0 u1 u2 u3 hne
  clear hb3
  go_wp2_with fail
  go_ret
  exact⟨by rw [HF.out];rfl,HB4.out⟩
 rw [e2'] at c1
 by_cases e3':na'.data=nb'.data
 case neg =>
  have hb1:(na'.data == nb'.data)=false:=by simpa using e3'
  have hb2:=bytes_ne e3'
  have HF:=Lib.hid (show sameB S S2 K K2 f a b=false from by rw [HR.out];unfold sameN;rw [hb1];simp)
  clear HR HIH HK1 HK2
  generalize (⟨nb'.name.toArray⟩:ByteArray)=s2 at *
  generalize (⟨na'.data.toArray⟩:ByteArray)=s3 at *
  generalize (⟨nb'.data.toArray⟩:ByteArray)=s4 at *
  have hne:=stb_ne w2
  have x0:=fun(x:InS (StB w2))=>cell_keep x.h c0
  have x1:=fun(x:InS (StB w2))=>cell_keep x.h c1
  have x2:=fun(x:InS (StB w2))=>cell_keep x.h c2
  have x3:=fun(x:InS (StB w2))=>cell_keep x.h c3
  have u0:=fun(x:InS (StB w2))=>cell_keep x.h e0
  have u1:=fun(x:InS (StB w2))=>cell_keep x.h e1
  have u2:=fun(x:InS (StB w2))=>cell_keep x.h e2
  have u3:=fun(x:InS (StB w2))=>cell_keep x.h e3
  clear c0 c1 c2 c3 e0 e1 e2 e3
  refine reg_f (fun _ _=>True) (fun _ v=>v=.bool (na'.attrs == nb'.attrs)) 51 (by kernel_rfl) (by kernel_rfl) (fun _ _ _ _ _=>trivial) trivial ?_
  simp only [zzF,zzG,zzH,zzI]
  repeat (first
   | (refine RV.m_held (by rfl) (by rfl) (fun K hK=>?_);go_big_quiet_step (fail);refine wpQuiet_nil ?_;refine hK.out _ ?_;clear hK K)
   | (refine RV.m_skip (by rfl) ?_;simp only [Act.put,zzA,zzB,zzC]))
  refine RV.m_nil ?_
  intro w3 hb3 _
  have HB4:=Lib.hid (bthen HB3.out hb3)
  clear x0 x1 x2 x3 u0 u1 u2 u3 hne
  clear hb3
  go_wp2_with fail
  go_ret
  exact⟨by rw [HF.out];rfl,HB4.out⟩
 rw [e3'] at c3
 have HF:=Lib.hid (show sameB S S2 K K2 f a b=((na'.attrs == nb'.attrs) && all2 (sameB S S2 K K2 (f - 1)) (K a) (K2 b)) from by rw [HR.out];unfold sameN;rw [e1',e2',e3'];simp)
 clear HR
 generalize (⟨nb'.name.toArray⟩:ByteArray)=s2 at *
 generalize (⟨nb'.data.toArray⟩:ByteArray)=s4 at *
 have hne:=stb_ne w2
 have x0:=fun(x:InS (StB w2))=>cell_keep x.h c0
 have x1:=fun(x:InS (StB w2))=>cell_keep x.h c1
 have x2:=fun(x:InS (StB w2))=>cell_keep x.h c2
 have x3:=fun(x:InS (StB w2))=>cell_keep x.h c3
 have u0:=fun(x:InS (StB w2))=>cell_keep x.h e0
 have u1:=fun(x:InS (StB w2))=>cell_keep x.h e1
 have u2:=fun(x:InS (StB w2))=>cell_keep x.h e2
 have u3:=fun(x:InS (StB w2))=>cell_keep x.h e3
 clear c0 c1 c2 c3 e0 e1 e2 e3
 refine reg_f (fun _ _=>True) (fun _ v=>v=.bool (na'.attrs == nb'.attrs)) 51 (by kernel_rfl) (by kernel_rfl) (fun _ _ _ _ _=>trivial) trivial ?_
 simp only [zzF,zzG,zzH,zzI]
 repeat (first
  | (refine RV.m_held (by rfl) (by rfl) (fun K hK=>?_);go_big_quiet_step (fail);refine wpQuiet_nil ?_;refine hK.out _ ?_;clear hK K)
  | (refine RV.m_skip (by rfl) ?_;simp only [Act.put,zzA,zzB,zzC]))
 refine RV.m_call (by rfl) (by rfl) (fun w=>by go_simp;exact⟨rfl,rfl⟩) (⟨_,rfl⟩) (fun X wx hx=>?_) (fun v hv=>?_)
 ·refine(HEq.out _ hx.1).mono ?_
  rintro e wy ⟨rfl,nn,hw⟩
  exact⟨_,rfl,rfl,by rw [hw];exact bthen hx.1 (Below.drewN (Below.refl _ _) _),trivial⟩
 obtain rfl:v=.bool (na'.attrs == nb'.attrs):=hv
 simp only [Act.put,zzA,zzB,zzC]
 repeat (first
  | (refine RV.m_held (by rfl) (by rfl) (fun K hK=>?_);go_big_quiet_step (fail);refine wpQuiet_nil ?_;refine hK.out _ ?_;clear hK K)
  | (refine RV.m_skip (by rfl) ?_;simp only [Act.put,zzA,zzB,zzC]))
 refine RV.m_nil ?_
 intro w3 hb3 _
 have HB4:=Lib.hid (bthen HB3.out hb3)
 clear x0 x1 x2 x3 u0 u1 u2 u3 hne
 have HR4:=Lib.hid (HP4.out.below hb3)
 have HR6:=Lib.hid (HP6.out.below hb3)
 clear hb3
 clear HB3 HP4 HP6
 cases hat:(na'.attrs == nb'.attrs) with
 | false =>
  rw [hat] at HF
  go_wp2_with fail
  go_ret
  exact⟨by rw [HF.out];rfl,HB4.out⟩
 | true =>
  rw [hat,Bool.true_and] at HF
  have hne4:=stb_ne w3
  have y4:∀x:InS (StB w3),x.w.cell? ⟨w.heap.size,0,none⟩=some (.pointer (some ⟨R,0,none⟩)):=fun x=>(HR4.out.below x.h).cell 0
  have y6:∀x:InS (StB w3),x.w.cell? ⟨w.heap.size+1,0,none⟩=some (.pointer (some ⟨R2,0,none⟩)):=fun x=>(HR6.out.below x.h).cell 0
  clear hl2' hgl hgl2 hs1
  go_upto_region 4 with fail
  refine reg_f (SmF w3 (K a).length (K2 b).length (hC ((K a).map S.hd)) (hC ((K2 b).map S2.hd))) (SmV (K a).length (K2 b).length (all2 (sameB S S2 K K2 (f - 1)) (K a) (K2 b))) 9 (by kernel_rfl) (by kernel_rfl) SmF.below trivial ?_
  simp only [zzF,zzG,zzH,zzI]
  repeat (first
   | (refine RV.m_held (by rfl) (by rfl) (fun K hK=>?_);go_big_quiet_step (fail);refine wpQuiet_nil ?_;refine hK.out _ ?_;clear hK K)
   | (refine RV.m_skip (by rfl) ?_;simp only [Act.put,zzA,zzB,zzC]))
  refine RV.m_call (by rfl) (by rfl) (fun w=>by go_simp;exact⟨rfl,rfl⟩) (⟨_,none,0,rfl⟩) (fun X wx hx=>?_) (fun v hv=>?_)
  ·refine(HK1.out _ (bthen HB4.out hx.1)).mono ?_
   rintro e wy ⟨v,rfl,ho,hb⟩
   have ho':wy.ownsRow w3.heap.size 3 1 v (K a).length (hC ((K a).map S.hd)):=own_baseB (own_low ho (Nat.zero_le _)) (fun k hk=>Nat.le_trans hx.1.size (ho.lt k hk).1)
   exact⟨_,rfl,own_shapeB ho',bthen hx.1 hb,ho'⟩
  obtain⟨a1,c1,rfl⟩:=hv
  simp only [Act.put,zzA,zzB,zzC]
  repeat (first
   | (refine RV.m_held (by rfl) (by rfl) (fun K hK=>?_);go_big_quiet_step (fail);refine wpQuiet_nil ?_;refine hK.out _ ?_;clear hK K)
   | (refine RV.m_skip (by rfl) ?_;simp only [Act.put,zzA,zzB,zzC]))
  refine RV.m_call (by rfl) (by rfl) (fun w=>by go_simp;exact⟨rfl,rfl⟩) (⟨_,none,0,rfl⟩) (fun X wx hx=>?_) (fun v hv=>?_)
  ·refine(HK2.out _ (bthen HB4.out hx.1)).mono ?_
   rintro e wy ⟨v,rfl,ho,hb⟩
   have ho':wy.ownsRow w3.heap.size 3 1 v (K2 b).length (hC ((K2 b).map S2.hd)):=own_baseB (own_low ho (Nat.zero_le _)) (fun k hk=>Nat.le_trans hx.1.size (ho.lt k hk).1)
   exact⟨_,rfl,own_shapeB ho',bthen hx.1 hb,own_keepB hx.2 hb,ho'⟩
  obtain⟨a2,c2,rfl⟩:=hv
  simp only [Act.put,zzA,zzB,zzC]
  repeat (first
   | (refine RV.m_held (by rfl) (by rfl) (fun K hK=>?_);go_big_quiet_step (fail);refine wpQuiet_nil ?_;refine hK.out _ ?_;clear hK K)
   | (refine RV.m_skip (by rfl) ?_;simp only [Act.put,zzA,zzB,zzC]))
  refine RV.m_call (by rfl) (by rfl) (fun w=>by go_simp;exact⟨rfl,rfl⟩) (⟨_,rfl⟩) (fun X wx hx=>?_) (fun v hv=>?_)
  ·have hB:=bthen HB4.out hx.1
   refine(equalFunc_any (sameB S S2 K K2 (f - 1)) (K a) (K2 b) S.hd S2.hd w.heap.size (w.heap.size+1) hx.2.1 hx.2.2 hkl1 hkl2 (fun j x y h1 h2 wz hbz=>?_)).mono ?_
   ·refine same1_any ((HR4.out.below hx.1).below hbz) ((HR6.out.below hx.1).below hbz) (HIH.out wz (bthen hB hbz) x (List.mem_of_getElem? h1) y (List.mem_of_getElem? h2))
   ·rintro e wy ⟨rfl,hb⟩
    exact⟨_,rfl,rfl,bthen hx.1 hb,trivial⟩
  obtain rfl:v=.bool (all2 (sameB S S2 K K2 (f - 1)) (K a) (K2 b)):=hv
  simp only [Act.put,zzA,zzB,zzC]
  repeat (first
   | (refine RV.m_held (by rfl) (by rfl) (fun K hK=>?_);go_big_quiet_step (fail);refine wpQuiet_nil ?_;refine hK.out _ ?_;clear hK K)
   | (refine RV.m_skip (by rfl) ?_;simp only [Act.put,zzA,zzB,zzC]))
  refine RV.m_nil ?_
  intro w4 hb4 _
  have HB5:=Lib.hid (bthen HB4.out hb4)
  clear y4 y6 hne4 hb4
  go_wp2_with fail
  go_ret
  exact⟨by rw [HF.out];rfl,HB5.out⟩
theorem same_at {B R B2 R2:Nat}{S S2:Tr}{sv fv sv2 fv2:Value}{K K2:Nat→List Nat}{d d2:Nat→Nat}(L1:Lk S K d)(L2:Lk S2 K2 d2)(hl1:∀x m,S.at x=some m→m.attrs.length≤1000)(hl2:∀x m,S2.at x=some m→m.attrs.length≤1000):∀f,SameAt B R B2 R2 S S2 sv fv sv2 fv2 K K2 d f
 | 0=>same_step L1 L2 hl1 hl2 0 (fun h=>absurd rfl h)
 | f+1=>same_step L1 L2 hl1 hl2 (f+1) (fun _=>same_at L1 L2 hl1 hl2 f)
end Go.Proofs.YtfelmdkeaacfeaaGreatDoor.W
end
section
namespace Go.Proofs.YtfelmdkeaacfeaaGreatDoor.W
open Go.RowKit
theorem MW.uniq {M:List MN}{D D':Nat→Nat}(h:MW M D)(h':MW M D'):∀(n i:Nat) (m:MN),D i=n→lv M i=some m→D' i=D i
 | n,i,m,hn,hi=>by
  cases e:m.par with
  | none=>rw [h.top i m hi e,h'.top i m hi e]
  | some p =>
   obtain⟨mp,h1,h2,h3⟩:=h.par i m p hi e
   obtain⟨_,_,_,h4⟩:=h'.par i m p hi e
   rw [h3,h4,MW.uniq h h' (D p) p mp rfl h1]
termination_by n => n
decreasing_by omega
theorem idx_uniq {l:List Nat}(h:l.Nodup){i j c:Nat}(hi:l[i]? = some c)(hj:l[j]? = some c):i=j :=
 (List.getElem?_inj (List.getElem?_eq_some_iff.1 hi).1 h).1 (hi.trans hj.symm)
theorem place_uniq {l:List Nat}(h:l.Nodup){c:Nat}{o:Option Nat}{i j:Nat}(hi:(o=none∧i=l.length)∨(∃b,o=some b∧b≠c∧l[i]? = some b))(hj:(o=none∧j=l.length)∨(∃b,o=some b∧b≠c∧l[j]? = some b)):i=j:=by
 rcases hi with ⟨e,rfl⟩ | ⟨b,e,_,h1⟩ <;> rcases hj with ⟨e',rfl⟩ | ⟨b',e',_,h2⟩
 ·rfl
 ·rw [e] at e';cases e'
 ·rw [e] at e';cases e'
 ·rw [e] at e';cases e';exact idx_uniq h h1 h2
theorem MIns.fn {M:List MN}{D:Nat→Nat}(hW:MW M D){p c:Nat}{o:Option Nat}{mc:MN}{M1 M2:List MN}{r1 r2:List Rc}(h1:MIns M p c o mc M1 r1)(h2:MIns M p c o mc M2 r2):M1=M2∧r1=r2:=by
 cases h1 with
 | det mp j a1 a2 a3 =>
  cases h2 with
  | det mp' j' b1 b2 b3 =>
   rw [a2] at b2;cases b2
   obtain rfl:=place_uniq (hW.nd p mp a2) a3 b3
   exact⟨rfl,rfl⟩
  | att q i j' mq mp' o' b1 _ _ _ _ _=>rw [a1] at b1;cases b1
 | att q i j mq mp o' a1 a2 a3 a4 a5 a6 =>
  cases h2 with
  | det mp' j' b1 _ _=>rw [a1] at b1;cases b1
  | att q' i' j' mq' mp' o2 b1 b2 b3 b4 b5 b6 =>
   rw [a1] at b1;cases b1
   rw [a2] at b2;cases b2
   obtain rfl:=idx_uniq (hW.nd q mq a2) a3 b3
   rw [a4] at b4;cases b4
   rw [← a5] at b5;subst b5
   obtain⟨m0,e1,e2⟩:=lv_cut' a4
   have hnd:mp.kids.Nodup:=by
    rw [e2]
    show(if p=q then m0.kids.eraseIdx i else m0.kids).Nodup
    split
    ·exact(hW.nd p m0 e1).sublist (List.eraseIdx_sublist _ _)
    ·exact hW.nd p m0 e1
   obtain rfl:=place_uniq hnd a6 b6
   exact⟨rfl,rfl⟩
theorem MRem.fn {M:List MN}{D:Nat→Nat}(hW:MW M D){c:Nat}{mc:MN}{M1 M2:List MN}{r1 r2:List Rc}{e1 e2:Int}(h1:MRem M c mc M1 r1 e1)(h2:MRem M c mc M2 r2 e2):M1=M2∧r1=r2:=by
 cases h1 with
 | doc h =>
  cases h2 with
  | doc _=>exact⟨rfl,rfl⟩
  | top h0 _=>exact absurd h h0
  | cut _ _ _ h0 _ _ _=>exact absurd h h0
 | top h0 h =>
  cases h2 with
  | doc h'=>exact absurd h' h0
  | top _ _=>exact⟨rfl,rfl⟩
  | cut q i mq _ b1 _ _=>rw [h] at b1;cases b1
 | cut q i mq h0 a1 a2 a3 =>
  cases h2 with
  | doc h'=>exact absurd h' h0
  | top _ b=>rw [a1] at b;cases b
  | cut q' i' mq' _ b1 b2 b3 =>
   rw [a1] at b1;cases b1
   rw [a2] at b2;cases b2
   obtain rfl:=idx_uniq (hW.nd q mq a2) a3 b3
   exact⟨rfl,rfl⟩
theorem MSet.fn {M : List MN} {h : Nat} {mh : MN} {nm v : List UInt8} {M1 M2 : List MN} {r1 r2 : List Rc} {e1 e2 : Int} (h1 : MSet M h mh nm v M1 r1 e1) (h2 : MSet M h mh nm v M2 r2 e2) : M1 = M2 ∧ r1 = r2 := by
  cases h1 <;> cases h2 <;> first
    | exact ⟨rfl, rfl⟩
    | contradiction
    | omega
    | (rename_i k y _ _ a3 a4 k' y' _ _ b b2
       obtain rfl : k = k' := by omega
       rw [a4] at b2; cases b2
       exact ⟨rfl, rfl⟩)
    | simp_all
theorem MDrp.fn {M : List MN} {h : Nat} {mh : MN} {nm : List UInt8} {M1 M2 : List MN} {r1 r2 : List Rc} {e1 e2 : Int} (h1 : MDrp M h mh nm M1 r1 e1) (h2 : MDrp M h mh nm M2 r2 e2) : M1 = M2 ∧ r1 = r2 := by
  cases h1 <;> cases h2 <;> first
    | exact ⟨rfl, rfl⟩
    | contradiction
    | omega
    | (rename_i k y _ a3 a4 k' y' _ b b2
       obtain rfl : k = k' := by omega
       rw [a4] at b2; cases b2
       exact ⟨rfl, rfl⟩)
theorem MRep.fn {M:List MN}{h:Nat}{mh:MN}{ix cnt:Int}{s:List UInt8}{M1 M2:List MN}{r1 r2:List Rc}{e1 e2:Int}(h1:MRep M h mh ix cnt s M1 r1 e1)(h2:MRep M h mh ix cnt s M2 r2 e2):M1=M2∧r1=r2:=by
 cases h1 <;> cases h2 <;> first
  | exact⟨rfl,rfl⟩
  | omega
theorem MMak.fn {M:List MN}{kind:Int}{nm dt:List UInt8}{al:List Atr}{M1 M2:List MN}{e1 e2:Int}(h1:MMak M kind nm dt al M1 e1)(h2:MMak M kind nm dt al M2 e2):M1=M2:=by
 cases h1 <;> cases h2 <;> first
  | rfl
  | contradiction
  | simp_all
theorem MDro.fn {M:List MN}{D D':Nat→Nat}{c:Nat}{mc:MN}{M1 M2:List MN}{e1 e2:Int}(hd:D' c=D c)(h1:MDro M D c mc M1 e1)(h2:MDro M D' c mc M2 e2):M1=M2:=by
 cases h1 with
 | no a =>
  cases h2 with
  | no _=>rfl
  | yes b0 b=>rcases a with a | a;exact absurd a b0;exact absurd b a
 | yes a0 a =>
  cases h2 with
  | no b=>rcases b with b | b;exact absurd b a0;exact absurd a b
  | yes _ _=>rw [hd]
theorem MCpy.fn {M:List MN}{D D':Nat→Nat}{deep:Bool}{c:Nat}{mc:MN}{M1 M2:List MN}{e1 e2:Int}(hd:D' c=D c)(h1:MCpy M D deep c mc M1 e1)(h2:MCpy M D' deep c mc M2 e2):M1=M2:=by
 cases h1 <;> cases h2 <;> first
  | rfl
  | contradiction
  | (rw [hd];done)
  | simp_all
theorem MInsA.fn {M:List MN}{D D':Nat→Nat}(hW:MW M D){p c:Nat}{o:Option Nat}{mp mc:MN}(hp:D' p=D p)(hc:D' c=D c){M1 M2:List MN}{r1 r2:List Rc}{e1 e2:Int}(h1:MInsA M D p c o mp mc M1 r1 e1)(h2:MInsA M D' p c o mp mc M2 r2 e2):M1=M2∧r1=r2:=by
 have hm:mchB M D' p c mp mc=mchB M D p c mp mc:=by unfold mchB;rw [hp]
 cases h1 with
 | no a =>
  cases h2 with
  | no _=>exact⟨rfl,rfl⟩
  | other _ _ b _ _ _=>rw [hm,a] at b;cases b
  | far _ _ _=>exact⟨rfl,rfl⟩
  | ok _ _ b _ _ _=>rw [hm,a] at b;cases b
 | other b0 mb a e hb hpb =>
  cases h2 with
  | no b=>exact⟨rfl,rfl⟩
  | other _ _ _ _ _ _=>exact⟨rfl,rfl⟩
  | far _ _ _=>exact⟨rfl,rfl⟩
  | ok _ _ _ ho _ _ =>
   obtain⟨mb',g1,g2⟩:=ho b0 e
   rw [hb] at g1;cases g1
   exact absurd g2 hpb
 | far a ho hd =>
  cases h2 with
  | no b=>exact⟨rfl,rfl⟩
  | other _ _ _ _ _ _=>exact⟨rfl,rfl⟩
  | far _ _ _=>exact⟨rfl,rfl⟩
  | ok _ _ _ _ hd' _=>rw [hp,hc] at hd';omega
 | ok _ _ a ho hd hm1 =>
  cases h2 with
  | no b=>rw [hm,a] at b;cases b
  | other b0 mb _ e hb hpb =>
   obtain⟨mb',g1,g2⟩:=ho b0 e
   rw [hb] at g1;cases g1
   exact absurd g2 hpb
  | far _ _ hd'=>rw [hp,hc] at hd';omega
  | ok _ _ _ _ _ hm2=>exact hm1.fn hW hm2
theorem MStep.fn {M:List MN}{D D':Nat→Nat}(hW:MW M D)(hW':MW M D'){o:OpV}{M1 M2:List MN}{r1 r2:List Rc}(h1:MStep M D o M1 r1)(h2:MStep M D' o M2 r2):M1=M2∧r1=r2:=by
 have hd:∀i m,lv M i=some m→D' i=D i:=fun i m hi=>MW.uniq hW hW' (D i) i m rfl hi
 have bad:lv M (o.iA M.length)=none∨(o.k % 10=3∧(lv M (o.iB M.length)=none∨∃q,o.iC M.length=some q∧lv M q=none))→∀{ma},lv M (o.iA M.length)=some ma→(o.k % 10=3→(∃mb,lv M (o.iB M.length)=some mb)∧∀q,o.iC M.length=some q→∃mq,lv M q=some mq)→False:=fun h ma ha hh=>by
  rcases h with h | ⟨hk,h | ⟨q,hq,h⟩⟩
  ·rw [ha] at h;cases h
  ·obtain⟨⟨mb,hb⟩,_⟩:=hh hk
   rw [hb] at h;cases h
  ·obtain⟨mq,hmq⟩:=(hh hk).2 q hq
   rw [hmq] at h;cases h
 cases h1 with
 | make _ _ hk hm =>
  cases h2 with
  | make _ _ _ hm'=>exact⟨hm.fn hm',rfl⟩
  | _=>omega
 | off hk h =>
  cases h2 with
  | off _ _=>exact⟨rfl,rfl⟩
  | ins _ mb _ _ _ hk' ha hb hc _=>exact(bad h ha (fun _=>⟨⟨mb,hb⟩,hc⟩)).elim
  | rem _ _ _ _ hk' ha _=>exact(bad h ha (fun _=>by omega)).elim
  | setA _ _ _ _ hk' ha _=>exact(bad h ha (fun _=>by omega)).elim
  | drpA _ _ _ _ hk' ha _=>exact(bad h ha (fun _=>by omega)).elim
  | rep _ _ _ _ hk' ha _=>exact(bad h ha (fun _=>by omega)).elim
  | cpy _ _ _ hk' ha _=>exact(bad h ha (fun _=>by omega)).elim
  | dro _ _ _ hk' ha _=>exact(bad h ha (fun _=>by omega)).elim
  | _=>omega
 | ins _ mb _ _ _ hk ha hb hc hm =>
  cases h2 with
  | off _ h=>exact(bad h ha (fun _=>⟨⟨mb,hb⟩,hc⟩)).elim
  | ins _ _ _ _ _ _ ha' hb' _ hm' =>
   rw [ha] at ha';cases ha'
   rw [hb] at hb';cases hb'
   exact hm.fn hW (hd _ _ hb) (hd _ _ ha) hm'
  | _=>omega
 | rem _ _ _ _ hk ha hm =>
  cases h2 with
  | off _ h=>exact(bad h ha (fun _=>by omega)).elim
  | rem _ _ _ _ _ ha' hm'=>rw [ha] at ha';cases ha';exact hm.fn hW hm'
  | _=>omega
 | setA _ _ _ _ hk ha hm =>
  cases h2 with
  | off _ h=>exact(bad h ha (fun _=>by omega)).elim
  | setA _ _ _ _ _ ha' hm'=>rw [ha] at ha';cases ha';exact hm.fn hm'
  | _=>omega
 | drpA _ _ _ _ hk ha hm =>
  cases h2 with
  | off _ h=>exact(bad h ha (fun _=>by omega)).elim
  | drpA _ _ _ _ _ ha' hm'=>rw [ha] at ha';cases ha';exact hm.fn hm'
  | _=>omega
 | rep _ _ _ _ hk ha hm =>
  cases h2 with
  | off _ h=>exact(bad h ha (fun _=>by omega)).elim
  | rep _ _ _ _ _ ha' hm'=>rw [ha] at ha';cases ha';exact hm.fn hm'
  | _=>omega
 | cpy _ _ _ hk ha hm =>
  cases h2 with
  | off _ h=>exact(bad h ha (fun _=>by omega)).elim
  | cpy _ _ _ _ ha' hm'=>rw [ha] at ha';cases ha';exact⟨hm.fn (hd _ _ ha) hm',rfl⟩
  | _=>omega
 | dro _ _ _ hk ha hm =>
  cases h2 with
  | off _ h=>exact(bad h ha (fun _=>by omega)).elim
  | dro _ _ _ _ ha' hm'=>rw [ha] at ha';cases ha';exact⟨hm.fn (hd _ _ ha) hm',rfl⟩
  | _=>omega
end Go.Proofs.YtfelmdkeaacfeaaGreatDoor.W
end
