/- Texts joined: ADr TDr Mwlk TwD. -/
import Derived.Test.YtfelmdkeaacfeaaGreatDoorTB1
import Derived.Test.YtfelmdkeaacfeaaGreatDoorTB21
import Derived.BigRegion
import Derived.Test.YtfelmdkeaacfeaaGreatDoorTB26
import Derived.Test.YtfelmdkeaacfeaaGreatDoorTB17
import Derived.Test.YtfelmdkeaacfeaaGreatDoorTB16
import Derived.LoopTactic
import Derived.RegionTactic
import Derived.Test.YtfelmdkeaacfeaaGreatDoorTB23
set_option maxRecDepth 100000
set_option maxHeartbeats 40000000
set_option linter.unusedVariables false
set_option linter.unusedSimpArgs false
section
namespace Go.Proofs.YtfelmdkeaacfeaaGreatDoor.W
open Go.RowKit
def Tr.gone (S:Tr)(i:Nat):Tr:={ S with slots:=S.slots.set i none,free:=S.free ++ [i] }
theorem F6:∀(l:List (Option Nd)) (i:Nat) (n:Nd),l[i]? = some (some n)→((l.set i none).filter Option.isSome).length+1=(l.filter Option.isSome).length
 | [],i,n,h=>by simp at h
 | x :: l,0,n,h=>by
  simp at h;subst h
  simp
 | x :: l,i+1,n,h=>by
  have ih:=F6 l i n (by simpa using h)
  rw [List.set_cons_succ]
  cases x with
  | none=>simpa using ih
  | some y=>simpa using ih
theorem LY {B R g cap i:Nat}{S:Tr}{fv:Value}{w:World}(h:fZ B R S (.slice (some ⟨g,0,none⟩) S.slots.length cap) fv w)(hd:Int)(hh:uY hd)(hk:S.ix hd=some i)(hfl:S.free.length≤1000000) :
  Calls Tryz.prog 72 #[.pointer (some ⟨R,0,none⟩),.int .i64 hd] w fun e w'=>∃fv',e=.returned (.bool true) ∧
   fZ B R (S.gone i) (.slice (some ⟨g,0,none⟩) S.slots.length cap) fv' w'∧dU (fun k=>k=R∨k=g∨fv.ownBlock=some k) w w'∧(fv'.ownBlock=fv.ownBlock∨∃k,fv'.ownBlock=some k∧w.heap.size≤k):=by
 have HF:=ae (Ba h hd hh hk)
 obtain⟨hi1,hil,n,hi⟩:=zG hk
 have I:=fun W=>AZ S.b S.s hd W hh.1 hh.2
 rw [hi1] at I
 have HI:=ae I
 have HHi:=ae hi
 have HT:=ae h
 have hfew:=h.few
 have hlv:S.live≤S.slots.length:=gU _ _
 have hgw:=(h.slots.lt g rfl).2
 have hRg:R≠g:=fun e=>by
  obtain⟨cur,hc⟩:=gJ h.slots (g:=g) rfl
  subst e
  exact dw hc h.blk (by decide) rfl
 have hRf:∀k,fv.ownBlock=some k→R≠k:=fun k hk e=>by
  obtain⟨cur,hc⟩:=gJ h.free hk
  subst e
  exact dw hc h.blk (by decide) rfl
 have hgf:∀k,fv.ownBlock=some k→g≠k:=fun k hk e=>by
  obtain⟨cur,hc⟩:=gJ h.free hk
  obtain⟨cur',hc'⟩:=gJ h.slots (g:=g) rfl
  subst e
  exact dw hc hc' (by decide) rfl
 have hbs:B≤w.heap.size:=by have:=h.base;have:=h.blk.lt;omega
 clear I h hk hi hi1
 go_enter Tryz.func72,Tryz.ntmps72
 go_wp2_with fail
 refine HF.out.mono ?_
 rintro e w2 ⟨rfl,hb2⟩
 have hT2:=HT.out.below hb2
 have HB2:=ae hb2
 have hgw2:=(hT2.slots.lt g rfl).2
 have sc:∀j,j < 10→w2.cell? ⟨g,i*10+j,none⟩=(jB (some n))[j]?:=fun j hj=>by
  have hl:j < (jB (some n)).length:=by rw [jQ];exact hj
  rw [ay hl]
  have:=hT2.slots.cells (g:=g) rfl (i*10+j) (jB (some n))[j] (by rw [GI _ _ _ HHi.out _ hj,ay hl])
  rw [aP,aJ] at this
  exact this
 have s0:=sc 0 (by omega)
 have s1:=sc 1 (by omega)
 have s2:=sc 2 (by omega)
 have s3:=sc 3 (by omega)
 have s4:=sc 4 (by omega)
 have s5:=sc 5 (by omega)
 have s6:=sc 6 (by omega)
 have s7:=sc 7 (by omega)
 have s8:=sc 8 (by omega)
 have s9:=sc 9 (by omega)
 simp only [jB,jd,dA,fQ,fP,Nat.add_zero] at s0 s1 s2 s3 s4 s5 s6 s7 s8 s9
 have sz:∀j,w2.frozen? ⟨g,j,none⟩=false:=fun j=>by
  rcases hT2.slots.2 with ⟨e,_⟩ | ⟨g',cap',cur,e,_,hh,_⟩
  ·cases e
  ·cases e;exact kG hh _
 have HS2:=ae hT2.slots
 have HR2:=ae hT2.blk
 clear sc hT2 hb2 HF
 go_upto_region 5 with fail
 have hrow:=(gV (gV (gV (gV (gV (gV (gV (gV (gV (gV HS2.out (i*10) (.bool false)) (i*10+1) (.int .i64 0)) (i*10+2) (.string ⟨#[]⟩)) (i*10+3) (.slice none 0 0)) (i*10+4) (.string ⟨#[]⟩)) (i*10+5) (.int .i64 0)) (i*10+6) (.int .i64 0)) (i*10+7) (.int .i64 0)) (i*10+8) (.int .i64 0)) (i*10+9) (.int .i64 0))
 have hset:nS (S.slots.set i none)=_:=IY S.slots i none hil
 simp only [jB,O1,dA,kZ] at hset
 have hch2:=(((((((((((dU.refl (fun k=>k=g) w2).setCell ⟨g,i*10,none⟩ (fun _=>(rfl:g=g)) (.bool false)).setCell ⟨g,i*10+1,none⟩ (fun _=>(rfl:g=g)) (.int .i64 0)).setCell ⟨g,i*10+2,none⟩ (fun _=>(rfl:g=g)) (.string ⟨#[]⟩)).setCell ⟨g,i*10+3,none⟩ (fun _=>(rfl:g=g)) (.slice none 0 0)).setCell ⟨g,i*10+4,none⟩ (fun _=>(rfl:g=g)) (.string ⟨#[]⟩)).setCell ⟨g,i*10+5,none⟩ (fun _=>(rfl:g=g)) (.int .i64 0)).setCell ⟨g,i*10+6,none⟩ (fun _=>(rfl:g=g)) (.int .i64 0)).setCell ⟨g,i*10+7,none⟩ (fun _=>(rfl:g=g)) (.int .i64 0)).setCell ⟨g,i*10+8,none⟩ (fun _=>(rfl:g=g)) (.int .i64 0)).setCell ⟨g,i*10+9,none⟩ (fun _=>(rfl:g=g)) (.int .i64 0))
 have hR3:=HR2.out.qU hch2 (fun e=>hRg e)
 have hlt3:=hR3.lt
 have HRow:=ae hrow
 have HSet:=ae hset
 have HCn:=ae ((dU.of_below (F:=fun k=>k=g) HB2.out).trans hch2 (fun _ _ e=>e))
 have HR3:=ae hR3
 clear hrow hset hch2 hR3 s0 s1 s2 s3 s4 s5 s6 s7 s8 s9 sz HS2 HR2
 generalize ((((((((((w2.setCell ⟨g,i*10,none⟩ (.bool false)).setCell ⟨g,i*10+1,none⟩ (.int .i64 0)).setCell ⟨g,i*10+2,none⟩ (.string ⟨#[]⟩)).setCell ⟨g,i*10+3,none⟩ (.slice none 0 0)).setCell ⟨g,i*10+4,none⟩ (.string ⟨#[]⟩)).setCell ⟨g,i*10+5,none⟩ (.int .i64 0)).setCell ⟨g,i*10+6,none⟩ (.int .i64 0)).setCell ⟨g,i*10+7,none⟩ (.int .i64 0)).setCell ⟨g,i*10+8,none⟩ (.int .i64 0)).setCell ⟨g,i*10+9,none⟩ (.int .i64 0))=W at *
 have c0:=HR3.out.cell 0
 have c1:=HR3.out.cell 1
 have c3:=HR3.out.cell 3
 have cf:=HR3.out.free
 simp only [fQ,fP] at c0 c1 c3
 have HC2:=ae (HCn.out.mono (G:=fun k=>k=R∨k=g∨fv.ownBlock=some k) (fun k _ e=>.inr (.inl e)))
 have hbw:w.heap.size≤W.heap.size:=HC2.out.size
 have hfrW:W.ownsRow B 3 1 fv S.free.length (S.free.map fun i=>.int .i64 (i:Nat)):=gW HT.out.free (fun b hb=>HCn.out.block b (HT.out.free.lt b hb).2 (fun e=>hgf b hb e.symm))
 have HFr:=ae hfrW
 obtain⟨fa,fc,rfl⟩:=bP hfrW
 clear hfrW
 go_region_law (first
  | (refine jO sS (fH HFr.out ((ak W.heap.size W).drew.trans (hb3.mono (au _)) |>.alloc (by have:=hb3.size;simpa using this) _)) (by have:=hb3.size;simp at this ⊢;omega) (jg (n:=1) (size:=1) (dD.new w3 [.int .i64 (i:Int)] 3) rfl (by omega)) (by intro u hu;simp at hu;subst hu;rfl) (by omega) (by omega) (by rfl) _ _ (by rfl) (by rfl) (by rfl) ?_;intro v' w4 ho hgr hvb;
      obtain⟨va,vc,rfl⟩:=bP ho;
      have b4:dD w4 R _ _:=((dD.below (w:=W.drew) HR3.out hb3).alloc (.cells #[.int .i64 (i:Int)] 3)).kept (hgr.block R (by have:=hb3.size;simp at this ⊢;omega) (fun e=>hRf R e.symm rfl));
      have c43:=b4.cell 3;have c44:=b4.cell 4;have cf4:=b4.free;simp only [fQ,fP] at c43 c44;
      have HB3:=ae hb3;have HR4:=ae b4;have HO4:=ae ho;have HG4:=ae hgr;have HV4:=ae hvb;clear b4 ho hgr hvb hb3)
  | (go_simp;go_at_call 113;refine(HI.out _).mono ?_;rintro e w3 ⟨rfl,hb3⟩;have b3:dD w3 R _ _:=dD.below (w:=W.drew) HR3.out hb3;have c33:=b3.cell 3;have c30:=b3.cell 0;have c31:=b3.cell 1;have cf3:=b3.free;have hl3:=b3.lt;simp only [fQ,fP] at c33 c30 c31;clear b3))
 all_goals
  go_wp2_with fail
  go_ret
  have hlf:=F6 S.slots i n HHi.out
  have k4:=(HR4.out.set 3 (.slice va (S.free.length+1) vc)).set 4 (.int .i64 ((S.live:Int) - 1))
  simp only [List.set_cons_succ,List.set_cons_zero] at k4
  have hb6:Below W.heap.size W (w3.alloc (.cells #[.int .i64 (i:Int)] 3)):=((ak W.heap.size W).drew.trans (HB3.out.mono (au _))).alloc (by have:=HB3.out.size;simpa using this) _
  have hch5:dU (fun k=>k=R∨k=g∨(Value.slice fa S.free.length fc).ownBlock=some k) w ((w4.setCell ⟨R,3,none⟩ (.slice va (S.free.length+1) vc)).setCell ⟨R,4,none⟩ (.int .i64 ((S.live:Int) - 1))):=(((HC2.out.trans (dU.of_below hb6) (fun _ _ h=>h)).grown HG4.out (fun k e _=>.inr (.inr e))).setCell ⟨R,3,none⟩ (fun _=>.inl rfl) _).setCell ⟨R,4,none⟩ (fun _=>.inl rfl) _
  have oth:∀{k:Nat} {cs:Array Value} {t:TypeId},w.heap[k]? = some (.cells cs t (0,0))→t≠159→t≠57→t≠3→((w4.setCell ⟨R,3,none⟩ (.slice va (S.free.length+1) vc)).setCell ⟨R,4,none⟩ (.int .i64 ((S.live:Int) - 1))).heap[k]? = w.heap[k]?:=fun {k cs t} hk h1 h2 h3=>hch5.block k (gp hk) (fun e=>by
   rcases e with rfl | rfl | e
   ·exact dw hk HT.out.blk h2 rfl
   ·obtain⟨cur,hc⟩:=gJ HT.out.slots (g:=k) rfl
    exact dw hk hc h1 rfl
   ·obtain⟨cur,hc⟩:=gJ HT.out.free e
    exact dw hk hc h3 rfl)
  refine⟨.slice va (S.free.length+1) vc,rfl,⟨?_,?_,?_,?_,HT.out.base,by unfold Tr.gone;simp only [dI];exact hfew⟩,hch5,?_⟩
  ·have e:((S.gone i).live:Int)=(S.live:Int) - 1:=by unfold Tr.live Tr.gone at *;simp only [];omega
   rw [e]
   exact k4
  ·unfold Tr.gone
   simp only [dI]
   rw [HSet.out]
   refine gW HRow.out (fun b hb=>?_)
   have hbg:b=g:=by cases hb;rfl
   subst hbg
   have hl2:b < W.heap.size:=(HRow.out.lt b rfl).2
   exact(aF _ _ _ _ (fun e=>hRg e.symm)).trans ((aF _ _ _ _ (fun e=>hRg e.symm)).trans ((HG4.out.block b (aO hl2 hb6.size) (fun e=>hgf b e.symm rfl)).trans (hb6.block b hl2)))
  ·have e:((S.gone i).free.map fun(j:Nat)=>Value.int .i64 (j:Int))=(S.free.map fun(j:Nat)=>Value.int .i64 (j:Int)) ++ [.int .i64 (i:Int)]:=by unfold Tr.gone;simp
   rw [e,show(S.gone i).free.length=S.free.length+1 by unfold Tr.gone;simp]
   refine gW HO4.out (fun b hb=>?_)
   obtain⟨cur,hcur⟩:=gJ HO4.out hb
   have hne:b≠R:=fun e=>by
    subst e
    exact dw hcur HR4.out (by decide) rfl
   exact(aF _ _ _ _ hne).trans (aF _ _ _ _ hne)
  ·intro k m hk
   have hk2:S.slots[k]? = some (some m):=by
    unfold Tr.gone at hk
    simp only [] at hk
    rw [dH] at hk
    by_cases e:i=k
    ·rw [aC e,aC hil] at hk;cases hk
    ·rw [ax e] at hk;exact hk
   obtain⟨a,c,e,h'⟩:=HT.out.attrs k m hk2
   refine⟨a,c,e,h'.imp id ?_⟩
   rintro⟨b,cur,e2,hB,hg,hc⟩
   exact⟨b,cur,e2,hB,(oth hg (by decide) (by decide) (by decide)).trans hg,hc⟩
  ·rcases HV4.out with e | e
   ·exact .inl e
   ·exact .inr ⟨_,e,aQ hbw hb6.size⟩
def Tr.ja (S:Tr)(l:List Nat):Tr:=l.foldl Tr.gone S
theorem LD (S:Tr)(l:List Nat)(x:Nat):S.ja (l ++ [x])=(S.ja l).gone x:=by unfold Tr.ja;rw [List.foldl_append];rfl
theorem zL (S:Tr):∀l:List Nat,(S.ja l).b=S.b∧(S.ja l).s=S.s∧(S.ja l).root=S.root∧(S.ja l).slots.length=S.slots.length∧(S.ja l).free=S.free ++ l:=by
 intro l
 induction l generalizing S with
 | nil=>simp [Tr.ja]
 | cons x l ih =>
  have h:=ih (S.gone x)
  have e:S.ja (x :: l)=(S.gone x).ja l:=rfl
  rw [e]
  refine⟨h.1,h.2.1,h.2.2.1,?_,?_⟩
  ·rw [h.2.2.2.1];simp [Tr.gone]
  ·rw [h.2.2.2.2];simp [Tr.gone]
theorem uA (S:Tr):∀(l:List Nat) (x:Nat),x∉l→(S.ja l).slots[x]? = S.slots[x]?:=by
 intro l
 induction l generalizing S with
 | nil=>intro x _;rfl
 | cons y l ih =>
  intro x hx
  have e:S.ja (y :: l)=(S.gone y).ja l:=rfl
  rw [e,ih (S.gone y) x (fun h=>hx (gX _ h))]
  unfold Tr.gone
  simp only [dH]
  rw [ax (fun e=>hx (by rw [e];exact Xz))]
theorem J8 {B R:Nat}{S:Tr}{sv fv:Value}{w:World}(h:fZ B R S sv fv w)(hd:Int)(hh:uY hd)(hk:S.ix hd=none) :
  Calls Tryz.prog 25 #[.pointer (some ⟨R,0,none⟩),.int .i64 hd] w fun e w'=>e=.returned (.int .i64 6)∧Below w.heap.size w w':=by
 have HA:=ae (qI h hd hh hk)
 clear h hk
 go_enter Tryz.func25,Tryz.ntmps25
 go_wp2_with fail
 refine HA.out.mono ?_
 rintro e w2 ⟨rfl,hb⟩
 go_wp2_with fail
 go_ret
 exact⟨rfl,hb⟩
theorem Dw {B R:Nat}{S:Tr}{sv fv:Value}{w:World}{K d}(h:fZ B R S sv fv w)(hL:Lk S K d)(i:Nat)(n:Nd)(hi:S.at i=some n)(hp:n.parent≠0∨n.kind=1) :
  Calls Tryz.prog 25 #[.pointer (some ⟨R,0,none⟩),.int .i64 (S.hd i)] w fun e w'=>e=.returned (.int .i64 7)∧Below w.heap.size w w':=by
 obtain⟨g,cap,rfl⟩:=fO h (by have:=iy hi;omega)
 have HA:=ae (bV h (S.hd i) (hd_ok hL hi).1 (fV hL hi))
 have HS:=ae (fun wx (hb:Below w.heap.size w wx)=>(show wx.cell? ⟨g,i*10+1,none⟩=some (.int .i64 n.kind)∧wx.cell? ⟨g,i*10+5,none⟩=some (.int .i64 n.parent) from⟨dm (h.below hb) (dN hi) 1 (by omega),dm (h.below hb) (dN hi) 5 (by omega)⟩))
 clear h hi
 go_enter Tryz.func25,Tryz.ntmps25
 go_wp2_with fail
 refine HA.out.mono ?_
 rintro e w2 ⟨rfl,hb⟩
 obtain⟨c1,c5⟩:=HS.out w2 hb
 have HB:=ae hb
 clear hb HA HS
 unfold na
 by_cases hp0:n.parent=0
 ·have hk:n.kind=1:=by rcases hp with e | e;exact absurd hp0 e;exact e
  rw [hp0] at c5
  rw [hk] at c1
  clear hp hp0 hk
  go_wp2_with fail
  go_ret
  exact⟨rfl,HB.out⟩
 ·have hd:decide (n.parent=0)=false:=by simp;exact hp0
  clear hp
  go_wp2_with fail
  go_ret
  exact⟨rfl,HB.out⟩
def V4 (B R g cap:Nat)(S:Tr)(fv:Value)(w:World)(l:List Nat)(v:Value)(jv:Value)(wr:World):Prop :=
 ∃(j B2:Nat) (fv':Value),j≤l.length∧jv=.int .i64 (j:Int)∧fZ B R (S.ja (l.take j)) (.slice (some ⟨g,0,none⟩) S.slots.length cap) fv' wr∧wr.ownsRow B2 3 1 v l.length (hC (l.map S.hd)) ∧
  dU (fun k=>k=R∨k=g∨fv.ownBlock=some k) w wr∧(fv'.ownBlock=fv.ownBlock∨∃k,fv'.ownBlock=some k∧w.heap.size≤k)∧(∀k,v.ownBlock=some k→w.heap.size≤k∧fv'.ownBlock≠some k)
theorem Pm {B R g cap:Nat}{S:Tr}{fv:Value}{w:World}{K d}(h:fZ B R S (.slice (some ⟨g,0,none⟩) S.slots.length cap) fv w)(hL:Lk S K d)(i:Nat)(n:Nd)(hi:S.at i=some n)(hp:n.parent=0)(hk:n.kind≠1)(hfl:S.free.length+S.slots.length≤1000000) :
  Calls Tryz.prog 25 #[.pointer (some ⟨R,0,none⟩),.int .i64 (S.hd i)] w fun e w'=>∃fv',e=.returned (.int .i64 0)∧fZ B R (S.ja (dR K (128 - d i) i)) (.slice (some ⟨g,0,none⟩) S.slots.length cap) fv' w' ∧
   dU (fun k=>k=R∨k=g∨fv.ownBlock=some k) w w'∧(fv'.ownBlock=fv.ownBlock∨∃k,fv'.ownBlock=some k∧w.heap.size≤k):=by
 have HA:=ae (bV h (S.hd i) (hd_ok hL hi).1 (fV hL hi))
 have HS:=ae (fun wx (hb:Below w.heap.size w wx)=>(show wx.cell? ⟨g,i*10+1,none⟩=some (.int .i64 n.kind)∧wx.cell? ⟨g,i*10+5,none⟩=some (.int .i64 n.parent) from⟨dm (h.below hb) (dN hi) 1 (by omega),dm (h.below hb) (dN hi) 5 (by omega)⟩))
 have hsi:(S.at i).isSome=true:=by rw [hi];rfl
 have HND:=ae (pg hL (128 - d i) i hsi)
 have HSB:=ae (fun x hx=>(mF hL (128 - d i) i x hsi hx).2)
 have HLN:=oz hL (128 - d i) i hsi
 have HT:=ae h
 have hfew:=h.few
 have hgw:=(h.slots.lt g rfl).2
 have hRw:=h.blk.lt
 have hfv:∀k,fv.ownBlock=some k→k < w.heap.size:=fun k hk=>(h.free.lt k hk).2
 have HCl:=ae (fun(wa:World) (hb:Below w.heap.size w wa)=>(show Calls Tryz.prog 68 #[.func (.func 73) #[] #[.pointer (some ⟨wa.heap.size,0,none⟩),.pointer (some ⟨wa.heap.size+1,0,none⟩)]] ((wa.alloc (.cells #[.pointer (some ⟨R,0,none⟩)] 29)).alloc (.cells #[.int .i64 (S.hd i)] 3)) fun e w'=>∃v,e=.returned v∧w'.ownsRow ((wa.alloc (.cells #[.pointer (some ⟨R,0,none⟩)] 29)).alloc (.cells #[.int .i64 (S.hd i)] 3)).heap.size 3 1 v (dR K (128 - d i) i).length (hC ((dR K (128 - d i) i).map S.hd))∧Below ((wa.alloc (.cells #[.pointer (some ⟨R,0,none⟩)] 29)).alloc (.cells #[.int .i64 (S.hd i)] 3)).heap.size ((wa.alloc (.cells #[.pointer (some ⟨R,0,none⟩)] 29)).alloc (.cells #[.int .i64 (S.hd i)] 3)) w' from by
  have k1:=dD.new wa [.pointer (some ⟨R,0,none⟩)] 29
  have k2:=dD.new (wa.alloc (.cells #[.pointer (some ⟨R,0,none⟩)] 29)) [.int .i64 (S.hd i)] 3
  have hs1:(wa.alloc (.cells #[.pointer (some ⟨R,0,none⟩)] 29)).heap.size=wa.heap.size+1:=by simp
  rw [hs1] at k2
  have hbb:Below wa.heap.size wa ((wa.alloc (.cells #[.pointer (some ⟨R,0,none⟩)] 29)).alloc (.cells #[.int .i64 (S.hd i)] 3)):=((ak _ _).alloc (au _) _).alloc (by simp) _
  have k1':=k1.alloc (.cells #[.int .i64 (S.hd i)] 3)
  have hs2:((wa.alloc (.cells #[.pointer (some ⟨R,0,none⟩)] 29)).alloc (.cells #[.int .i64 (S.hd i)] 3)).heap.size=wa.heap.size+2:=by simp
  have k1':dD ((wa.alloc (.cells #[.pointer (some ⟨R,0,none⟩)] 29)).alloc (.cells #[.int .i64 (S.hd i)] 3)) wa.heap.size [.pointer (some ⟨R,0,none⟩)] 29:=k1'
  have k2:dD ((wa.alloc (.cells #[.pointer (some ⟨R,0,none⟩)] 29)).alloc (.cells #[.int .i64 (S.hd i)] 3)) (wa.heap.size+1) [.int .i64 (S.hd i)] 3:=k2
  generalize (wa.alloc (.cells #[.pointer (some ⟨R,0,none⟩)] 29)).alloc (.cells #[.int .i64 (S.hd i)] 3)=w2 at *
  refine BI (enters_of Tryz.func73 (by kernel_rfl) rfl) (by omega) (fun m=>Dq (h.below hb) hL n hi ⟨?_,?_,?_,?_⟩ (k1'.alloc _) (k2.alloc _))
  ·simp;omega
  ·intro k cs t fr hk
   have hkl:=(aX.1 hk).1
   exact(((ak w2.heap.size w2).alloc (au _) _).block k (by omega)).trans ((hbb.block k hkl).trans hk)
  ·intro k hk
   have kb:=(dD.new w2 [.slice none 0 0] 31).cell 0
   simp only [List.getElem?_cons_zero] at kb
   unfold J3 at hk
   rw [kb] at hk
   cases hk
  ·simp;omega))
 clear hsi h
 go_enter Tryz.func25,Tryz.ntmps25
 go_wp2_with fail
 refine HA.out.mono ?_
 rintro e w2 ⟨rfl,hb⟩
 obtain⟨c1,c5⟩:=HS.out w2 hb
 have HB:=ae hb
 have HC2:=ae (HCl.out w2 hb)
 clear hb HA HS HCl
 unfold na
 have hd:decide (n.kind=1)=false:=by simp;exact hk
 rw [hp] at c5
 go_wp2_with fail
 refine(walk_any R (S.hd i) w2).mono ?_
 rintro e w3 ⟨rfl,hw3⟩
 rw [hw3]
 have hb23:Below w2.heap.size w2 ((w2.alloc (.cells #[.pointer (some ⟨R,0,none⟩)] 29)).alloc (.cells #[.int .i64 (S.hd i)] 3)):=((ak _ _).alloc (au _) _).alloc (by simp) _
 have HB3:=ae (aV HB.out hb23)
 clear hw3 hb23 c1 c5
 go_wp2_with fail
 refine HC2.out.mono ?_
 rintro e w4 ⟨v,rfl,ho4,hb4⟩
 obtain⟨va,vc,rfl⟩:=bP ho4
 have HB4:=ae (aV HB3.out hb4)
 have HO4:=ae ho4
 have hsz3:=HB3.out.size
 clear ho4 hb4 HC2
 generalize hl:dR K (128 - d i) i=l at *
 go_wp2_with fail
 go_loopw [32] (fun jv wr=>V4 B R g cap S fv w l (.slice va l.length vc) jv wr) (fun jv _=>l.length - iW jv)
 case atStart=>exact⟨0,_,fv,by omega,rfl,by simpa [Tr.ja] using HT.out.below HB4.out,HO4.out,dU.of_below HB4.out,.inl rfl,fun k hk=>⟨by have:=(HO4.out.lt k hk).1;omega,fun e=>by have:=hfv k e;have:=(HO4.out.lt k hk).1;omega⟩⟩
 case round =>
  obtain⟨j,B2,fv',hj,rfl,hT,ho,hc,hf1,hf2⟩:=hrel
  by_cases hlt:j < l.length
  ·obtain⟨x,hx⟩:∃x,l[j]? = some x:=⟨_,ay hlt⟩
   have hxl:=ah hx
   obtain⟨nx,hnx⟩:=aB.1 (HSB.out x hxl)
   obtain⟨gv,cp2,hv,hcell⟩:=pO ho (x:=S.hd x) (by rw [bI,hx];rfl)
   cases hv
   have hnt:x∉l.take j:=fun hm=>by
    obtain⟨q,hq⟩:=aI.1 hm
    rw [eX] at hq
    by_cases hqj:q < j
    ·rw [aC hqj] at hq
     have h1:=(ai.1 hq).1
     have:=(iK h1 HND.out).1 (hq.trans hx.symm)
     omega
    ·rw [ax hqj] at hq;cases hq
   obtain⟨e1,e2,e3,e4,e5⟩:=zL S (l.take j)
   have hhd:(S.ja (l.take j)).hd x=S.hd x:=by unfold Tr.hd;rw [e1,e2]
   have hix:(S.ja (l.take j)).ix (S.hd x)=some x:=by
    rw [← hhd]
    exact Ea (n:=nx) (by rw [e4];omega) (by rw [uA S _ x hnt];exact dN hnx)
   rw [← e4] at hT
   have HD:=ae (LY hT (S.hd x) (hd_ok hL hnx).1 hix (by rw [e5];have:=List.length_take_le j l;simp only [aA];omega))
   rw [e4] at HD
   have htk:l.take (j+1)=l.take j ++ [x]:=by rw [fJ,hx];rfl
   have HG:=ae (show S.ja (l.take (j+1))=(S.ja (l.take j)).gone x by rw [htk,LD])
   have hRz:=hT.blk.free
   have HO:=ae ho
   have HC:=ae hc
   have HF1:=ae hf1
   have HF2:=ae hf2
   have hTf:∀k,fv'.ownBlock=some k→k < wr.heap.size:=fun k hk=>(hT.free.lt k hk).2
   have HRn:=ae (fun k (hk:(Value.slice (some ⟨gv,0,none⟩) l.length vc).ownBlock=some k)=>(show k≠R∧k≠g from⟨fun e=>by
    obtain⟨cur,hcur⟩:=gJ ho hk
    subst e
    exact dw hcur hT.blk (by decide) rfl,fun e=>by
    obtain⟨cur,hcur⟩:=gJ ho hk
    obtain⟨cur2,hcur2⟩:=gJ hT.slots (g:=g) rfl
    subst e
    exact dw hcur hcur2 (by decide) rfl⟩))
   clear hT ho hc hf1 hf2 hix hhd hnt e1 e2 e3 e4 e5 hx hxl hnx htk
   go_wp2_with fail
   refine HD.out.mono ?_
   rintro e w5 ⟨fv2,rfl,hT5,hc5,hf5⟩
   have HS:=ae (show V4 B R g cap S fv w l (.slice (some ⟨gv,0,none⟩) l.length vc) (.int .i64 ((j+1:Nat):Int)) w5 from⟨j+1,B2,fv2,by omega,rfl,by rw [HG.out];exact hT5,gW HO.out (fun k hk=>hc5.block k (HO.out.lt k hk).2 (fun e=>by
     rcases e with e | e | e
     ·exact(HRn.out k hk).1 e
     ·exact(HRn.out k hk).2 e
     ·exact(HF2.out k hk).2 e)),HC.out.trans hc5 (fun k hk e=>by
     rcases e with e | e | e
     ·exact .inl e
     ·exact .inr (.inl e)
     ·rcases HF1.out with e2 | ⟨q,e2,hq⟩
      ·exact .inr (.inr (e2 ▸ e))
      ·rw [e2] at e;cases e;omega),by
     rcases hf5 with e | ⟨q,e,hq⟩
     ·rw [e];exact HF1.out
     ·exact .inr ⟨q,e,aQ HC.out.size hq⟩,fun k hk=>⟨(HF2.out k hk).1,fun e=>by
     rcases hf5 with e2 | ⟨q,e2,hq⟩
     ·exact(HF2.out k hk).2 (e2 ▸ e)
     ·rw [e2] at e;cases e
      have:=(HO.out.lt k hk).2
      omega⟩⟩)
   clear hT5 hc5 hf5
   go_wp2_with fail
   exact⟨HS.out,by simp only [iW];omega⟩
  ·obtain rfl:j=l.length:=by omega
   rw [dE] at hT
   have HT9:=ae hT
   have HC:=ae hc
   have HF1:=ae hf1
   clear hT ho hc hf1 hf2
   go_wp2_with fail
   go_ret
   exact⟨fv',rfl,by rw [hl];exact HT9.out,HC.out,HF1.out⟩
section
variable {Q g cap : Nat} {X : List MX} {D : Nat → Nat}
theorem Oa (hW:MW (ms X) D)(hN:∀f i m,lv (ms X) i=some m→(dR (kM (ms X)) f i).length≤100000):∀(f i:Nat) (m:MN),lv (ms X) i=some m→128 - D i=f→∀w,Af Q (.slice (some ⟨g,0,none⟩) X.length cap) X w →
  Calls Tryz.prog 37 #[.pointer (some ⟨Q,0,none⟩),.int .i64 (i:Int)] w fun e w'=>∃v,e=.returned v∧w'.ownsRow w.heap.size 3 1 v (dR (kM (ms X)) f i).length (kC (dR (kM (ms X)) f i))∧Below w.heap.size w w':=by
 intro f
 induction f using Nat.strongRecOn with
 | ind f ih =>
  intro i m hi hf w h
  have c0:=h.ptr
  obtain⟨_,_,ka,kc,c5,ho⟩:=h.FZ hi
  have l1:=lU hi
  have hkl:=hW.Lj hi
  have hlow:=hW.low i m hi
  have hpos:=hW.Sm hi
  have hkM:=qQ hi
  have HC:=ae (fun(k:Nat) (hk:k∈m.kids) (wx:World) (hx:Below w.heap.size w wx)=>(show
    Calls Tryz.prog 37 #[.pointer (some ⟨Q,0,none⟩),.int .i64 (k:Int)] wx fun e w'=>∃v,e=.returned v∧w'.ownsRow wx.heap.size 3 1 v (dR (kM (ms X)) (f - 1) k).length (kC (dR (kM (ms X)) (f - 1) k))∧Below wx.heap.size wx w' from by
   obtain⟨mk,hmk,hpk⟩:=hW.kid i m k hi hk
   obtain⟨mi,hmi,_,hd⟩:=hW.par k mk i hmk hpk
   have hlk:=hW.low k mk hmk
   exact ih (f - 1) (by omega) k mk hmk (by omega) wx (h.below hx)))
  have hE:dR (kM (ms X)) f i=i :: m.kids.flatMap (dR (kM (ms X)) (f - 1)):=by
   cases f with
   | zero =>
    have hk0:m.kids=[]:=by
     cases hk:m.kids with
     | nil=>rfl
     | cons k t =>
      obtain⟨mk,hmk,hpk⟩:=hW.kid i m k hi (by rw [hk];simp)
      obtain⟨mi,hmi,_,hd⟩:=hW.par k mk i hmk hpk
      have:=hW.low k mk hmk
      omega
    rw [hk0];rfl
   | succ f =>
    show i :: (kM (ms X) i).flatMap (dR (kM (ms X)) f)=_
    rw [hkM];rfl
  have hn:=hN f i m hi
  rw [hE] at hn ⊢
  have HL:=ae (fun t=>(show((m.kids.take t).flatMap (dR (kM (ms X)) (f - 1))).length≤100000 from by
   have:((m.kids.take t).flatMap (dR (kM (ms X)) (f - 1))).length≤(m.kids.flatMap (dR (kM (ms X)) (f - 1))).length:=by
    rw [← bG t m.kids]
    rw [jT,aA]
    rw [bG]
    omega
   rw [List.length_cons] at hn
   omega))
  have HN1:=ae (fun k (hk:k∈m.kids)=>(show(dR (kM (ms X)) (f - 1) k).length≤100000 from by
   obtain⟨mk,hmk,hpk⟩:=hW.kid i m k hi hk
   exact hN (f - 1) k mk hmk))
  have HG:=ae (fun(t:Nat) (k:Nat) (wx:World) (hx:Below w.heap.size w wx) (hk:m.kids[t]? = some k)=>uu (bH ho hx) hk)
  have HQ:=ae (fun wx (hb:Below w.heap.size w wx)=>(show wx.cell? ⟨Q,0,none⟩=some (.slice (some ⟨g,0,none⟩) X.length cap)∧wx.cell? ⟨g,i*7+5,none⟩=some (.slice ka m.kids.length kc) from⟨aU hb c0,aU hb c5⟩))
  have hQl:=h.blk.lt
  clear hE hn h ih ho hkM hN c0 c5
  go_enter Tryz.func37,Tryz.ntmps37
  go_wp2_with fail
  have ho1:(w.alloc (.cells #[.int .i64 (i:Int)] 3)).ownsRow w.heap.size 3 1 (.slice (some ⟨w.heap.size,0,none⟩) 1 1) 1 (kC [i]):=by
   refine own_base' ?_ (fun k hk=>by cases hk;exact au _)
   exact jg (n:=1) (size:=1) (dD.new w [.int .i64 (i:Int)] 3) rfl (by omega)
  have hb1:Below w.heap.size w (w.alloc (.cells #[.int .i64 (i:Int)] 3)):=(ak _ _).alloc (au _) _
  have HO1:=ae ho1
  have HB1:=ae hb1
  clear ho1 hb1
  generalize w.alloc (.cells #[.int .i64 (i:Int)] 3)=w1 at *
  go_loopw [5,6] (fun ov iv wr=>∃(t:Nat) (ol:Nat),t≤m.kids.length∧iv=.int .i64 (t:Int)∧ol=(i :: (m.kids.take t).flatMap (dR (kM (ms X)) (f - 1))).length∧wr.ownsRow w.heap.size 3 1 ov ol (kC (i :: (m.kids.take t).flatMap (dR (kM (ms X)) (f - 1))))∧Below w.heap.size w wr) (fun _ iv _=>m.kids.length - iW iv)
  case atStart=>exact⟨0,1,by omega,rfl,rfl,HO1.out,HB1.out⟩
  case round =>
   obtain⟨t,ol,ht,rfl,hol,hown,hb⟩:=hrel
   obtain⟨q0,q5⟩:=HQ.out _ hb
   obtain⟨oa,oc,rfl⟩:=bP hown
   have HO:=ae hown
   have HBr:=ae hb
   have hll:=HL.out t
   rw [List.length_cons] at hol
   have hol2:ol≤100001:=by omega
   have HOl:=ae hol
   clear hown hb hol
   by_cases htl:t < m.kids.length
   ·obtain⟨k,hk⟩:∃k,m.kids[t]? = some k:=⟨_,ay htl⟩
    obtain⟨gk,rfl,ck⟩:=HG.out t k _ HBr.out hk
    have HK:=ae (HC.out k (ah hk) _ HBr.out)
    have hkn:=HN1.out k (ah hk)
    have hkp:=CB (kM (ms X)) (f - 1) k
    have HS:=ae (iU hk (dR (kM (ms X)) (f - 1)))
    generalize (m.kids.take t).flatMap (dR (kM (ms X)) (f - 1))=l1 at *
    generalize dR (kM (ms X)) (f - 1) k=l2 at *
    clear hk
    go_wp2_with fail
    refine HK.out.mono ?_
    rintro e w4 ⟨v,rfl,hv,hb4⟩
    have hv0:Own w4 3 1 v l2.length (kC l2):=iD hv (aZ _)
    obtain⟨gv,cv,rfl,_⟩:=sK hv0 (by omega)
    have HV:=ae hv0
    have HO4:=ae (fH HO.out hb4)
    have hB4:=aV HBr.out hb4
    have hlt4:=fun g (hg:(Value.slice oa ol oc).ownBlock=some g)=>(HO.out.lt g hg).1
    have HB4:=ae hB4
    clear hv hv0 hB4 hb4 q0 q5 ck
    have hsz4:w.heap.size≤w4.heap.size:=HB4.out.size
    go_wp2_with (at_builtin;refine lD sS HO4.out hsz4 HV.out (AV _) (by omega) (by omega) rfl _ _ rfl rfl rfl ?_)
    intro v' w5 ho5 hg5 _
    have HO5:=ae ho5
    have HB5:=ae (HB4.out.grown hg5 hsz4 (fun k hk=>hlt4 k hk))
    clear ho5 hg5 HO4 HV
    go_wp2_with fail
    refine⟨⟨t+1,ol+l2.length,by omega,by first | rfl | simp,?_,?_,HB5.out⟩,by simp only [iW];omega⟩
    ·have:=HOl.out;rw [HS.out,List.length_cons,aA];omega
    ·rw [HS.out]
     have:=HO5.out
     rw [Ll,List.cons_append] at this
     exact this
   ·obtain rfl:t=m.kids.length:=by omega
    rw [dE] at HO HOl
    go_wp2_with fail
    go_ret
    refine⟨_,rfl,?_,HBr.out⟩
    rw [← HOl.out]
    exact HO.out
end
def pX (M:List MN)(l:List Nat):List MN:=M.mapIdx fun i m=>{ m with gone:=m.gone || l.contains i }
theorem Ot (M:List MN):pX M []=M:=by
 unfold pX
 apply gu
 intro i
 rw [dB]
 cases M[i]? with
 | none=>rfl
 | some m=>simp
theorem LC (M:List MN)(l:List Nat)(k:Nat)(m:MN)(hk:M[k]? = some m):(pX M l).set k { m with gone:=true }=pX M (l ++ [k]):=by
 unfold pX
 apply gu
 intro i
 rw [dH,dB,dB,gQ]
 have hl:=(ai.1 hk).1
 by_cases e:k=i
 ·subst e
  rw [aC rfl,aC hl,hk]
  simp
 ·rw [ax e]
  have e':¬i=k:=fun h=>e h.symm
  cases M[i]? with
  | none=>rfl
  | some m=>simp [e']
theorem Js (M:List MN)(l:List Nat)(k:Nat):(pX M l)[k]? = (M[k]?).map fun m=>{ m with gone:=m.gone || l.contains k }:=by
 unfold pX;rw [dB]
inductive JY (M:List MN) (D:Nat→Nat) (c:Nat) (mc:MN):List MN→Int→Prop
 | no (h:c=0∨mc.par≠none):JY M D c mc M 7
 | yes (h0:c≠0) (h:mc.par=none):JY M D c mc (pX M (dR (kM M) (128 - D c) c)) 0
theorem Oc {Q g cap:Nat}{X:List MX}{D:Nat→Nat}{w:World}(h:jC Q (.slice (some ⟨g,0,none⟩) X.length cap) X w)(hW:MW (ms X) D)(hN:∀f i m,lv (ms X) i=some m→(dR (kM (ms X)) f i).length≤100000)(hLv:∀f i m,lv (ms X) i=some m→∀y∈dR (kM (ms X)) f i,∃my,lv (ms X) y=some my)
  {c:Nat}{mc:MN}(hc:lv (ms X) c=some mc) :
  Calls Tryz.prog 49 #[.pointer (some ⟨Q,0,none⟩),.int .i64 (c:Int)] w fun e w'=>∃X' en,JY (ms X) D c mc (ms X') en∧e=.returned (.int .i64 en)∧fU Q (.slice (some ⟨g,0,none⟩) X.length cap) X w (.slice (some ⟨g,0,none⟩) X'.length cap) X' w':=by
 have c0:=h.W.ptr
 obtain⟨_,c4,_⟩:=h.W.FZ hc
 have lc:=lU hc
 have hf:=hW.few
 rw [aY] at hf
 have hQl:=h.W.blk.lt
 have hgl:=CU h
 have HWk:=ae (Oa hW hN (128 - D c) c mc hc rfl w h.W)
 have hnl:=hN (128 - D c) c mc hc
 have HLv:=ae (hLv (128 - D c) c mc hc)
 have H0:=ae h
 have hgQ:g≠Q:=fun e=>by
  have h1:=h.W.blk
  obtain⟨cg,hg⟩:=dF h.W.row (b:=g) rfl
  rw [← e] at h1
  exact dw h1 hg (by decide) rfl
 clear h hW hc hN hLv
 by_cases hc0:c=0
 ·subst hc0
  go_enter Tryz.func49,Tryz.ntmps49
  go_wp2_with fail
  go_ret
  exact⟨X,7,.no (.inl rfl),rfl,fU.refl H0.out (ak _ _)⟩
 have hb:((c:Int) == 0)=false:=by simp;omega
 cases hp:mc.par with
 | some q =>
  rw [hp,show pI (some q)=(q:Int) from rfl] at c4
  have HP:=ae hp
  clear hp
  go_enter Tryz.func49,Tryz.ntmps49
  go_wp2_with fail
  go_ret
  exact⟨X,7,.no (.inr (by rw [HP.out];simp)),rfl,fU.refl H0.out (ak _ _)⟩
 | none =>
  rw [hp,show pI none=-1 from rfl] at c4
  have HR:=ae (JY.yes (M:=ms X) (D:=D) hc0 hp)
  clear hp
  generalize dR (kM (ms X)) (128 - D c) c=L at *
  go_enter Tryz.func49,Tryz.ntmps49
  go_wp2_with fail
  refine HWk.out.mono ?_
  rintro e w1 ⟨v,rfl,hv,hb1⟩
  obtain⟨va,vc,rfl⟩:=bP hv
  have HV:=ae hv
  have HB1:=ae hb1
  clear hv c0 c4
  go_wp2_with fail
  go_loopw [6] (fun iv wr=>∃(t:Nat) (X1:List MX),t≤L.length∧iv=.int .i64 (t:Int)∧ms X1=pX (ms X) (L.take t)∧wr.ownsRow w.heap.size 3 1 (.slice va L.length vc) L.length (kC L)∧fU Q (.slice (some ⟨g,0,none⟩) X.length cap) X w (.slice (some ⟨g,0,none⟩) X1.length cap) X1 wr) (fun iv _=>L.length - iW iv)
  case atStart=>exact⟨0,X,by omega,rfl,by rw [List.take_zero,Ot],HV.out,fU.refl H0.out HB1.out⟩
  case round =>
   obtain⟨t,X1,ht,rfl,hms,hown,hM⟩:=hrel
   have HO:=ae hown
   have HM:=ae hM
   have HMs:=ae hms
   have hlen:X1.length=X.length:=by
    have:=bW List.length hms
    unfold pX at this
    rw [aY,gQ,aY] at this
    exact this
   clear hown hM hms
   by_cases htl:t < L.length
   ·obtain⟨k,hk⟩:∃k,L[t]? = some k:=⟨_,ay htl⟩
    obtain⟨gk,rfl,ck⟩:=uu (iD HO.out (aZ _)) hk
    obtain⟨mk,hmk⟩:=HLv.out k (ah hk)
    have lk:k < X1.length:=by rw [hlen];exact lU hmk
    obtain⟨xk,hxk⟩:∃x,X1[k]? = some x:=⟨_,ay lk⟩
    have q0:=HM.out.at_.W.ptr
    have q6:=HM.out.at_.W.cell hxk 6 (by omega)
    simp only [qZ,fQ,fP] at q6
    have qz:=HM.out.at_.W.Ou
    have HXk:=ae hxk
    have HLk:=ae hk
    have hgk:=(HO.out.lt gk rfl)
    have hgkg:gk≠g:=by omega
    clear hk hmk hxk
    go_wp2_with fail
    go_region
    all_goals
     have hp:=HM.out.at_.U6 HXk.out { xk.m with gone:=true } 6 (.bool true) (by omega) rfl rfl rfl
     have ho2:=gW HO.out (w':=wr.setCell ⟨g,k*7+6,none⟩ (.bool true)) (fun b hb=>aF _ _ _ _ (by cases hb;exact hgkg))
     have HP:=ae (HM.out.trans hp)
     have HO2:=ae ho2
     clear hp ho2
     go_wp2_with fail
     refine⟨⟨t+1,_,by omega,by first | rfl | simp,?_,HO2.out,HP.out.still ((ak _ _).drew)⟩,by simp only [iW];omega⟩
     rw [uh,HMs.out,fJ,HLk.out]
     have h1:(pX (ms X) (L.take t))[k]? = some xk.m:=by rw [← HMs.out,vS,HXk.out];rfl
     rw [Js] at h1
     obtain⟨m0,h2,h3⟩:=bJ.1 h1
     have:=LC (ms X) (L.take t) k m0 h2
     rw [← h3]
     exact this
   ·obtain rfl:t=L.length:=by omega
    rw [dE] at HMs
    go_wp2_with fail
    go_ret
    exact⟨X1,0,by rw [HMs.out];exact HR.out,rfl,HM.out⟩
theorem Jt (S:Tr):∀(l:List Nat) (x:Nat),x∈l→x < S.slots.length→(S.ja l).slots[x]? = some none:=by
 intro l
 induction l generalizing S with
 | nil=>intro x hx;cases hx
 | cons y l ih =>
  intro x hx hl
  have e:S.ja (y :: l)=(S.gone y).ja l:=rfl
  rw [e]
  by_cases h:x∈l
  ·exact ih (S.gone y) x h (by simpa [Tr.gone] using hl)
  ·rcases bn.1 hx with rfl | h2
   ·rw [uA _ _ _ h]
    unfold Tr.gone
    simp [dH,hl]
   ·exact absurd h2 h
structure Falls (S:Tr) (K:Nat→List Nat) (l:List Nat):Prop where
 live:∀x∈l,(S.at x).isSome=true
 J4:∀p k,k∈K p→(p∈l↔k∈l)
 nodup:l.Nodup
 zero:0∉l
theorem vV {S:Tr}{K:Nat→List Nat}{l:List Nat}(F:Falls S K l)(x:Nat):(S.ja l).at x=if x∈l then none else S.at x:=by
 by_cases h:x∈l
 ·rw [aC h]
  obtain⟨n,hn⟩:=aB.1 (F.live x h)
  unfold Tr.at
  rw [Jt S l x h (iy hn)];rfl
 ·rw [ax h]
  unfold Tr.at
  rw [uA S l x h]
def rF (K:Nat→List Nat)(l:List Nat)(p:Nat):List Nat:=if p∈l then [] else K p
theorem zK (S:Tr)(l:List Nat)(o:Option Nat):hO (S.ja l) o=hO S o:=by
 obtain⟨e1,e2,_⟩:=zL S l
 cases o with
 | none=>rfl
 | some i=>show(S.ja l).hd i=S.hd i;unfold Tr.hd;rw [e1,e2]
theorem pF {K:Nat→List Nat}{l:List Nat}{p k:Nat}(h:k∈rF K l p):p∉l∧k∈K p:=by
 unfold rF at h
 by_cases e:p∈l
 ·rw [aC e] at h;cases h
 ·rw [ax e] at h;exact⟨e,h⟩
theorem Lk.ja {S:Tr}{K:Nat→List Nat}{d:Nat→Nat}{l:List Nat}(h:Lk S K d)(F:Falls S K l):Lk (S.ja l) (rF K l) d:=by
 obtain⟨e1,e2,e3,e4,e5⟩:=zL S l
 have hat:=vV F
 have hhd:∀x,(S.ja l).hd x=S.hd x:=fun x=>by unfold Tr.hd;rw [e1,e2]
 have back:∀{x n},(S.ja l).at x=Option.some n→x∉l∧S.at x=Option.some n:=fun {x n} hx=>by
  rw [hat] at hx
  by_cases e:x∈l
  ·rw [aC e] at hx;cases hx
  ·rw [ax e] at hx;exact⟨e,hx⟩
 have free:∀{x},x∉l→(∀p,x∉rF K l p)→∀p,x∉K p:=fun {x} hx hp p hk=>by
  refine hp p ?_
  unfold rF
  rw [ax (fun e=>hx ((F.J4 p x hk).1 e))]
  exact hk
 refine⟨fun p k hk=>?_,fun i n hi=>?_,fun p j k n hk hn=>?_,fun i n hi hp=>?_,fun p=>?_,fun p k hk=>h.qc p k (pF hk).2,fun i hi hp=>?_,h.low,by rw [e4];exact h.few⟩
 ·obtain⟨hp,hk⟩:=pF hk
  have hkl:k∉l:=fun e=>hp ((F.J4 p k hk).2 e)
  rw [hat,hat,ax hp,ax hkl]
  exact h.kin p k hk
 ·obtain⟨hl,hi⟩:=back hi
  unfold rF
  rw [ax hl,zK,zK]
  exact h.node i n hi
 ·have hkm:=pF (ah hk)
  obtain⟨hl,hn⟩:=back hn
  unfold rF at hk ⊢
  rw [ax hkm.1] at hk ⊢
  rw [zK,zK,hhd]
  exact h.kid p j k n hk hn
 ·obtain⟨hl,hi⟩:=back hi
  exact h.top i n hi (free hl hp)
 ·unfold rF
  split
  ·exact uK
  ·exact h.nodup p
 ·obtain⟨n,hn⟩:=aB.1 hi
  obtain⟨hl,hn⟩:=back hn
  exact h.one i (by rw [hn];rfl) (free hl hp)
theorem iP.ja {c:Nat}{S:Tr}{K:Nat→List Nat}{d:Nat→Nat}{l:List Nat}(T:iP c S K d)(F:Falls S K l):iP c (S.ja l) (rF K l) d:=by
 obtain⟨e1,e2,e3,e4,e5⟩:=zL S l
 have hat:=vV F
 have back:∀{x n},(S.ja l).at x=some n→x∉l∧S.at x=some n:=fun {x n} hx=>by
  rw [hat] at hx
  by_cases e:x∈l
  ·rw [aC e] at hx;cases hx
  ·rw [ax e] at hx;exact⟨e,hx⟩
 refine⟨T.lk.ja F,fun x n hx=>T.nd x n (back hx).2,fun p np hp=>?_,fun k hk=>?_,?_,?_,?_,fun x n hx h0=>T.other x n (back hx).2 h0,fun p hp=>T.vN p (pF hp).2⟩
 ·exact(T.J4 p np (back hp).2).sub rfl (fun k hk=>(pF hk).2) (fun k n' hn=>⟨n',(back hn).2,rfl⟩)
 ·rw [e5] at hk
  rcases cZ.1 hk with hk | hk
  ·have h1:=T.fr k hk
   have hkl:k∉l:=fun e=>by
    obtain⟨n,hn⟩:=aB.1 (F.live k e)
    rw [dN hn] at h1;cases h1
   rw [uA S l k hkl];exact h1
  ·obtain⟨n,hn⟩:=aB.1 (F.live k hk)
   exact Jt S l k hk (iy hn)
 ·rw [e5,jf]
  refine⟨T.rZ,F.nodup,fun a ha b hb e=>?_⟩
  subst e
  have h1:=T.fr a ha
  obtain⟨n,hn⟩:=aB.1 (F.live a hb)
  rw [dN hn] at h1;cases h1
 ·rw [e3,T.root];unfold Tr.hd;rw [e1,e2]
 ·obtain⟨n,h1,h2⟩:=T.doc
  exact⟨n,by rw [hat,ax F.zero];exact h1,h2⟩
theorem DY (M:List MN)(l:List Nat)(j:Nat):lv (pX M l) j=if j∈l then none else lv M j:=by
 unfold lv
 rw [Js]
 cases e:M[j]? with
 | none=>simp
 | some m =>
  by_cases h:j∈l
  ·have:l.contains j=true:=by simpa using h
   simp [h]
  ·have:l.contains j=false:=by simpa using h
   simp [h]
theorem Tw.ja {ex:Prop}{E:Nat→Prop}{c:Nat}{S:Tr}{K:Nat→List Nat}{d:Nat→Nat}{M:List MN}{σ : Nat→Nat}(W:Tw ex E c S K M σ){l':List Nat}(hlive:∀y∈l',∃m,lv M y=some m)(F:Falls S K (l'.map σ)):Tw ex E c (S.ja (l'.map σ)) (rF K (l'.map σ)) (pX M l') σ:=by
 have hat:=vV F
 have back:∀{j m},lv (pX M l') j=some m→j∉l'∧lv M j=some m:=fun {j m} h=>by
  rw [DY] at h
  by_cases e:j∈l'
  ·rw [aC e] at h;cases h
  ·rw [ax e] at h;exact⟨e,h⟩
 have fwd:∀{j m},j∉l'→lv M j=some m→lv (pX M l') j=some m:=fun {j m} h1 h2=>by rw [DY,ax h1];exact h2
 have off:∀{j m},lv M j=some m→(σ j∈l'.map σ↔j∈l'):=fun {j m} h=>by
  constructor
  ·intro hm
   obtain⟨y,hy,e⟩:=bC.1 hm
   obtain⟨my,h2⟩:=hlive y hy
   rw [← W.inj y j my m h2 h e];exact hy
  ·intro hm;exact bC.2 ⟨j,hm,rfl⟩
 refine⟨fun i m hi=>?_,fun i m hi=>?_,fun i j mi mj hi hj e=>W.inj i j mi mj (back hi).2 (back hj).2 e,⟨W.zero.1,?_⟩,fun i m p hi hp=>?_,fun p mp k hp hk=>?_,fun i m hi hp q hq=>W.top i m (back hi).2 hp q (pF hq).2,fun x hx=>?_,fun i m hi=>W.off i m (back hi).2,fun i m hi=>W.ma i m (back hi).2,by unfold pX;rw [gQ];exact W.few⟩
 ·obtain⟨h1,h2⟩:=back hi
  rw [hat,ax (fun e=>h1 ((off h2).1 e))]
  exact W.node i m h2
 ·obtain⟨h1,h2⟩:=back hi
  unfold rF
  rw [ax (fun e=>h1 ((off h2).1 e))]
  exact W.kids i m h2
 ·obtain⟨m0,h0⟩:=W.zero.2
  exact⟨m0,fwd (fun e=>F.zero (by rw [← W.zero.1];exact bC.2 ⟨0,e,rfl⟩)) h0⟩
 ·obtain⟨h1,h2⟩:=back hi
  obtain⟨mp,h3,h4⟩:=W.par i m p h2 hp
  refine⟨mp,fwd (fun e=>h1 ?_) h3,h4⟩
  have hk:σ i∈K (σ p):=by rw [W.kids p mp h3];exact bC.2 ⟨i,h4,rfl⟩
  exact(off h2).1 ((F.J4 _ _ hk).1 ((off h3).2 e))
 ·obtain⟨h1,h2⟩:=back hp
  obtain⟨mk,h3,h4⟩:=W.kid p mp k h2 hk
  refine⟨mk,fwd (fun e=>h1 ?_) h3,h4⟩
  have hk':σ k∈K (σ p):=by rw [W.kids p mp h2];exact bC.2 ⟨k,hk,rfl⟩
  exact(off h2).1 ((F.J4 _ _ hk').2 ((off h3).2 e))
 ·rw [hat] at hx
  by_cases e:x∈l'.map σ
  ·rw [aC e] at hx;cases hx
  ·rw [ax e] at hx
   rcases W.cover x hx with h | ⟨i,m,h1,h2⟩
   ·exact .inl h
   ·refine .inr ⟨i,m,fwd (fun h3=>e ?_) h1,h2⟩
    rw [← h2];exact bC.2 ⟨i,h3,rfl⟩
theorem Bc {c:Nat}{S:Tr}{K:Nat→List Nat}{d:Nat→Nat}(T:iP c S K d){i:Nat}{n:Nd}(hi:S.at i=some n)(ht:∀q,i∉K q)(h0:i≠0):Falls S K (dR K (128 - d i) i):=by
 have hsi:(S.at i).isSome=true:=by rw [hi];rfl
 have mem:∀y,(S.at y).isSome=true→(y∈dR K (128 - d i) i↔lH S d i y=true):=fun y hy=>⟨fun h=>(mF T.lk _ i y hsi h).1,fun h=>Gz T.lk (d y) i y rfl hy hsi h⟩
 refine⟨fun x hx=>(mF T.lk _ i x hsi hx).2,fun p k hk=>?_,pg T.lk _ i hsi,fun hz=>?_⟩
 ·have hpk:=T.lk.kin p k hk
  rw [mem p hpk.1,mem k hpk.2,mG T.lk hk]
  have:(i == k)=false:=by simp;exact fun e=>ht p (e ▸ hk)
  rw [this,iE]
 ·have h2:=mF T.lk _ i 0 hsi hz
  rw [nM T.lk h2.2 T.vN] at h2
  exact h0 (by simpa using h2.1)
theorem Q9 {ex:Prop}{E:Nat→Prop}{c:Nat}{S:Tr}{K:Nat→List Nat}{d:Nat→Nat}{M M':List MN}{σ : Nat→Nat}(W:Tw ex E c S K M σ)(T:iP c S K d){x:Nat}{mx:MN}{n:Nd}(hx:lv M x=some mx)(hn:S.at (σ x)=some n){en:Int}(hm:JY M (fun i=>d (σ i)) x mx M' en) :
  (en=7∧M'=M∧(n.parent≠0∨n.kind=1)) ∨
  (en=0∧n.parent=0∧n.kind≠1∧iP c (S.ja (dR K (128 - d (σ x)) (σ x))) (rF K (dR K (128 - d (σ x)) (σ x))) d∧Tw ex E c (S.ja (dR K (128 - d (σ x)) (σ x))) (rF K (dR K (128 - d (σ x)) (σ x))) M' σ):=by
 have hp:=W.parent T.lk hx hn
 cases hm with
 | no h =>
  refine .inl ⟨rfl,rfl,?_⟩
  rcases h with rfl | h
  ·rw [W.zero.1] at hn
   obtain⟨n0,h1,h2⟩:=T.doc
   rw [hn] at h1;cases h1
   exact .inr h2
  ·left
   cases e:mx.par with
   | none=>exact absurd e h
   | some p =>
    rw [e] at hp
    obtain⟨mp,h1,_⟩:=W.par x mx p hx e
    obtain⟨np,h2,_⟩:=W.node p mp h1
    have:=(Go.Proofs.YtfelmdkeaacfeaaGreatDoor.W.hd_ok T.lk h2).2
    rw [hp]
    show S.hd (σ p)≠0
    omega
 | yes h0 h =>
  have hsx:σ x≠0:=fun e=>by
   obtain⟨m0,hm0⟩:=W.zero.2
   exact h0 (W.inj x 0 mx m0 hx hm0 (by rw [e,W.zero.1]))
  have ht:=W.top x mx hx h
  have F:=Bc T hn ht hsx
  rw [h] at hp
  have hwl:=W.dR (128 - d (σ x)) x mx hx
  refine .inr ⟨rfl,hp,T.other _ n hn hsx,T.ja F,?_⟩
  rw [hwl] at F ⊢
  exact Tw.ja (d:=d) W (fun y hy=>W.qO _ x mx hx y hy) F
end Go.Proofs.YtfelmdkeaacfeaaGreatDoor.W
end
