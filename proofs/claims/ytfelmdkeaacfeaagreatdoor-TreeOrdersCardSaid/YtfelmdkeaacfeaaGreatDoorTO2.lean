/- Texts joined: WkV Ctn OrdQ LwM Cps MFn OrdL. -/
import Derived.Test.YtfelmdkeaacfeaaGreatDoorTO1
import Derived.Lib.AppendStr
set_option maxRecDepth 100000
set_option maxHeartbeats 40000000
set_option linter.unusedVariables false
set_option linter.unusedSimpArgs false
section
namespace Go.Proofs.YtfelmdkeaacfeaaGreatDoor.W
open Go.RowKit
attribute [local go_sem] Oper.semAt_some
structure Yy (P:Nat→Obj→Prop) (W W':World):Prop where
 size:W.heap.size≤W'.heap.size
 kept:∀(k:Nat) (cs:Array Value) (t:TypeId) (fr:Nat×Nat),W.heap[k]? = some (Obj.cells cs t fr)→¬P k (.cells cs t fr)→W'.heap[k]? = some (Obj.cells cs t fr)
theorem Yy.trans {P:Nat→Obj→Prop}{A C D:World}(h:Yy P A C)(k:Yy P C D):Yy P A D :=
 ⟨aQ h.size k.size,fun i cs t fr hi h1=>k.kept i cs t fr (h.kept i cs t fr hi h1) h1⟩
theorem Yy.put {P:Nat→Obj→Prop}{W:World}(l:Nat)(o o':Obj)(h:W.heap[l]? = some o)(ho:o.isCells=false):Yy P W (W.putObj l o'):=by
 refine⟨by simp,fun k cs t fr hk _=>(kV (fun e=>?_)).trans hk⟩
 subst e;rw [hk] at h;cases h;cases ho
theorem Yy.below {P:Nat→Obj→Prop}{W W':World}(k:Below W.heap.size W W'):Yy P W W' :=
 ⟨k.size,fun i cs t fr hi _=>(k.block i (hlt hi)).trans hi⟩
def Z8 (P:Nat→Obj→Prop)(N0:Nat):Prop:=∀k cs fr,N0≤k→¬P k (.cells cs 3 fr)
theorem fZ.wkv {P:Nat→Obj→Prop}{B R:Nat}{S:Tr}{sv fv:Value}{w W:World}(h:fZ B R S sv fv w)(hk:Yy P w W)(hF:∀k cs t fr,yR R S sv fv k→w.heap[k]? = some (Obj.cells cs t fr)→¬P k (.cells cs t fr)):fZ B R S sv fv W:=by
 have keep:∀{e sz n:Nat} {v:Value} {xs:List Value},w.ownsRow B e sz v n xs→(∀g,v.ownBlock=some g→yR R S sv fv g)→W.ownsRow B e sz v n xs:=fun h hv=>gW h (fun g hg=>by
  obtain⟨cur,hc⟩:=gJ h hg
  exact(hk.kept g _ _ _ hc (hF g _ _ _ (hv g hg) hc)).trans hc.symm)
 refine⟨h.blk.kept ((hk.kept R _ _ _ h.blk (hF R _ _ _ (.inl rfl) h.blk)).trans (show _=_ from h.blk).symm),keep h.slots (fun g hg=>.inr (.inl hg)),keep h.free (fun g hg=>.inr (.inr (.inl hg))),fun i n hi=>?_,h.base,h.few⟩
 obtain⟨a,cp,e,hx⟩:=h.attrs i n hi
 by_cases hne:n.attrs=[]
 ·exact⟨a,cp,e,.inl hne⟩
 rcases hx with hx | ⟨g',cur',e1,e2,e3,e4⟩
 ·exact absurd hx hne
 ·exact⟨a,cp,e,.inr ⟨g',cur',e1,e2,hk.kept g' _ _ _ e3 (hF g' _ _ _ (.inr (.inr (.inr ⟨i,n,nX hi,hne,by rw [e,e1];rfl⟩))) e3),e4⟩⟩
def Z4 (S:Tr)(P:Nat→Obj→Prop)(K:Nat→List Nat)(f i:Nat)(w0 W:World)(pre:List Nat)(J:List Nat→World→Prop)(v:Value)(jv:Value)(wr:World):Prop :=
 ∃(j B2:Nat),j≤(K i).length∧jv=.int .i64 (j:Int)∧J (pre ++ [i] ++ ((K i).take j).flatMap (dR K f)) wr∧Yy P W wr∧Yy P w0 wr∧wr.ownsRow B2 3 1 v (K i).length (hC ((K i).map S.hd))∧∀k,v.ownBlock=some k→w0.heap.size≤k
def Z5 (R l:Nat)(P:Nat→Obj→Prop)(N:Nat)(S:Tr)(K:Nat→List Nat)(w0:World)(J Jx:List Nat→World→Prop)(f i:Nat):Prop :=
 ∀m pre W,Yy P w0 W→J pre W→pre.length+(dR K f i).length≤N →
  CallsIn Fence.wide m Tryz.prog 74 #[.pointer (some ⟨R,0,none⟩),.int .i64 (S.hd i),.func (.yield l) #[] #[]] W fun e W' =>
   (e=.returned (.bool true)∧J (pre ++ dR K f i) W'∧Yy P W W')∨(e=.returned (.bool false)∧∃q,q <+: pre ++ dR K f i∧Jx q W')
theorem YI {P:Nat→Obj→Prop}{B R g cap N l:Nat}{S:Tr}{fv:Value}{w0:World}{K:Nat→List Nat}{d:Nat→Nat}(hV:Z8 P w0.heap.size)(h0:∀W,Yy P w0 W→fZ B R S (.slice (some ⟨g,0,none⟩) S.slots.length cap) fv W)(hL:Lk S K d){J Jx:List Nat→World→Prop}
  (hJ:∀s W W',J s W→Below W.heap.size W W'→J s W')
  (hY:∀m pre x W,(S.at x).isSome=true→J pre W→pre.length < N→YieldAt Fence.wide m Tryz.prog l #[.int .i64 (S.hd x)] W fun e W'=>(e=.returned (.bool true)∧J (pre ++ [x]) W'∧Yy P W W')∨(e=.returned (.bool false)∧Jx (pre ++ [x]) W'))
  (f i:Nat)(n:Nd)(hi:S.at i=some n)(hw:dR K f i=i :: (K i).flatMap (dR K (f - 1)))(ih:∀k∈K i,Z5 R l P N S K w0 J Jx (f - 1) k):Z5 R l P N S K w0 J Jx f i:=by
 intro m pre W hI hj hN
 rw [hw] at hN ⊢
 obtain⟨fn,tmps,assign,body,hy,hR⟩:=hY (m - 1) pre i W (by rw [hi];rfl) hj (by simp at hN;omega)
 have HIH:=ae ih
 have HI:=ae hI
 have HJ:=ae hJ
 have hkl:=lX hL i
 clear ih hY hI hj hJ hw
 refine XL Tryz.func74 rfl trivial ?_ rfl
 simp only [Tryz.ntmps74,gZ,List.length_cons,List.length_nil,Nat.reduceAdd,Nat.reduceSub,ji,Array.replicate_zero,jS,jE,List.nil_append,List.cons_append]
 gi_wp2
 refine⟨fun h=>(by cases h),?_⟩
 refine hR.mono ?_
 rintro e W1 (⟨rfl,hj1,hk1⟩ | ⟨rfl,hx1⟩)
 ·have HI1:=ae (HI.out.trans hk1)
  have HK:=ae (pV (h0 _ HI1.out) hL i n hi)
  have HJ1:=ae hj1
  have HK1:=ae hk1
  clear hy hR hj1 hk1
  gi_wp2
  refine⟨trivial,fun h=>(by cases h),(jP.2 HK.out).mono ?_⟩
  rintro e W2 ⟨v,rfl,ho,hb2⟩
  obtain⟨va,vc,rfl⟩:=bP ho
  have k2:=Yy.below (P:=P) hb2
  have HO:=ae ho
  have hI2:=HI1.out.trans k2
  have HS:=ae (show Z4 S P K (f - 1) i w0 W pre J (.slice va (K i).length vc) (.int .i64 0) W2 from⟨0,W1.heap.size,by omega,rfl,by simpa using HJ.out _ _ _ HJ1.out hb2,HK1.out.trans k2,hI2,ho,fun k hk=>by
   have h1:=(ho.lt k hk).1
   have:=HI1.out.size
   omega⟩)
  clear ho hb2 k2 hI2 HK
  gi_wp2
  gi_loopw [17] (fun jv wr=>Z4 S P K (f - 1) i w0 W pre J (.slice va (K i).length vc) jv wr) (fun jv _=>(K i).length - (intOf jv).toNat)
  case atStart=>exact HS.out
  case round =>
   obtain⟨j,B2,hjl,rfl,hjj,hkk,hii,hoo,hne⟩:=hrel
   have HOo:=ae hoo
   have HJj:=ae hjj
   have HKk:=ae hkk
   have HIi:=ae hii
   have HNe:=ae hne
   clear hjj hkk hii hne
   by_cases hlt:j < (K i).length
   ·obtain⟨k,hk⟩:∃k,(K i)[j]? = some k:=⟨_,ay hlt⟩
    obtain⟨gv,cp2,hv,hc⟩:=pO hoo (x:=S.hd k) (by rw [bI,hk];rfl)
    cases hv
    have hcg:=iG wr ⟨gv,j,none⟩ hc
    have HC:=ae (HIH.out k (ah hk) (m - 1) (pre ++ [i] ++ ((K i).take j).flatMap (dR K (f - 1))) wr HIi.out HJj.out (by
     have e:=iU hk (dR K (f - 1))
     have h2:(((K i).take (j+1)).flatMap (dR K (f - 1))).length≤((K i).flatMap (dR K (f - 1))).length:=by
      conv=>rhs;rw [← bG (j+1) (K i),jT]
      simp
     rw [e] at h2
     simp only [aA,List.length_cons,List.length_nil] at h2 hN ⊢
     omega))
    have HE:=ae (iU hk (dR K (f - 1)))
    clear hoo hk
    gi_wp2
    refine⟨trivial,fun h=>(by cases h),HC.out.mono ?_⟩
    rintro e W3 (⟨rfl,hj3,hk3⟩ | ⟨rfl,q,hx3⟩)
    ·have HS3:=ae (show Z4 S P K (f - 1) i w0 W pre J (.slice (some ⟨gv,0,none⟩) (K i).length vc) (.int .i64 ((j+1:Nat):Int)) W3 from⟨j+1,B2,by omega,rfl,by rw [HE.out];rw [bu] at hj3;exact hj3,HKk.out.trans hk3,HIi.out.trans hk3,gW HOo.out (fun g hg=>by
      obtain⟨cur,hcur⟩:=gJ HOo.out hg
      exact(hk3.kept g _ _ _ hcur (hV g _ _ (HNe.out g hg))).trans hcur.symm),HNe.out⟩)
     clear hj3 hk3
     gi_wp2
     go_roundw
     case rel=>exact HS3.out
     case measure=>simp [intOf];omega
    ·obtain⟨hq,hx3⟩:=hx3
     have HX:=ae hx3
     have HQ:=ae (show q <+: pre ++ i :: (K i).flatMap (dR K (f - 1)) from hq.trans (by
      rw [← bG (j+1) (K i),jT,HE.out]
      exact⟨((K i).drop (j+1)).flatMap (dR K (f - 1)),by simp⟩))
     clear hx3 hq
     gi_wp2
     go_ret
     exact .inr ⟨rfl,_,HQ.out,HX.out⟩
   ·obtain rfl:j=(K i).length:=by omega
    rw [dE] at HJj
    clear hoo
    gi_wp2
    go_ret
    refine .inl ⟨rfl,?_,HKk.out⟩
    have:=HJj.out
    rw [bu] at this
    exact this
 ·have HX:=ae hx1
  clear hy hR hx1
  gi_wp2
  go_ret
  exact .inr ⟨rfl,_,⟨(K i).flatMap (dR K (f - 1)),by simp⟩,HX.out⟩
theorem Zz {P:Nat→Obj→Prop}{B R g cap N l:Nat}{S:Tr}{fv:Value}{w0:World}{K:Nat→List Nat}{d:Nat→Nat}(hV:Z8 P w0.heap.size)(h0:∀W,Yy P w0 W→fZ B R S (.slice (some ⟨g,0,none⟩) S.slots.length cap) fv W)(hL:Lk S K d){J Jx:List Nat→World→Prop}
  (hJ:∀s W W',J s W→Below W.heap.size W W'→J s W')
  (hY:∀m pre x W,(S.at x).isSome=true→J pre W→pre.length < N→YieldAt Fence.wide m Tryz.prog l #[.int .i64 (S.hd x)] W fun e W'=>(e=.returned (.bool true)∧J (pre ++ [x]) W'∧Yy P W W')∨(e=.returned (.bool false)∧Jx (pre ++ [x]) W')) :
  ∀(f i:Nat) (n:Nd),S.at i=some n→128 - d i=f→Z5 R l P N S K w0 J Jx f i:=by
 intro f
 induction f with
 | zero =>
  intro i n hi hf
  have hK:K i=[]:=by
   cases e:K i with
   | nil=>rfl
   | cons k t =>
    have h1:=hL.qc i k (by rw [e];simp)
    have h2:=hL.low k
    omega
  exact YI hV h0 hL hJ hY 0 i n hi (by rw [hK];rfl) (fun k hk=>by rw [hK] at hk;cases hk)
 | succ f ih =>
  intro i n hi hf
  refine YI hV h0 hL hJ hY (f+1) i n hi rfl (fun k hk=>?_)
  obtain⟨j,hj⟩:=aI.1 hk
  obtain⟨nk,hnk⟩:=hL.some hj
  have hdk:=hL.qc i k hk
  have hlow:=hL.low k
  exact ih k nk hnk (by omega)
abbrev Ym (S:Tr):Type:={x:Nat // (S.at x).isSome=true}
theorem Ze {m:Nat}{P:Program}{l:Nat}{args:Array Value}{W:World}{R R':Ending→World→Prop}(h:YieldAt Fence.wide m P l args W R)(hR:∀e w,R e w→R' e w):YieldAt Fence.wide m P l args W R':=by
 obtain⟨fn,tmps,assign,body,hy,h1⟩:=h
 exact⟨fn,tmps,assign,body,hy,RoundIn.mono h1 hR⟩
theorem Zl {P:Nat→Obj→Prop}{B R g cap i Bs Bh n:Nat}{S:Tr}{fv:Value}{w0 w:World}{K:Nat→List Nat}{d:Nat→Nat}(hV:Z8 P w0.heap.size)(h0:∀W,Yy P w0 W→fZ B R S (.slice (some ⟨g,0,none⟩) S.slots.length cap) fv W)(hL:Lk S K d)(nd:Nd)(hi:S.at i=some nd)
  (hI:Yy P w0 w)(hBs:dD w Bs [.pointer (some ⟨R,0,none⟩)] 29)(hBh:dD w Bh [.int .i64 (S.hd i)] 3) :
  SeqStopsK Fence.wide n Tryz.prog 73 #[.pointer (some ⟨Bs,0,none⟩),.pointer (some ⟨Bh,0,none⟩)] (fun x:Ym S=>#[Value.int .i64 (S.hd x.1)]) (Yy P) (fun ys=>ys.map (·.1)=dR K (128 - d i) i) (fun ys=>ys.map (·.1) <+: dR K (128 - d i) i) (dR K (128 - d i) i).length w:=by
 intro l J Jx W hW hJ hJx hY hj
 have hIW:=hI.trans (Yy.below hW)
 have hix:S.ix (S.hd i)=some i:=fV hL hi
 have HAt:=ae (bV (h0 _ hIW) (S.hd i) (hd_ok hL hi).1 hix)
 have c0:=(hBs.below hW).cell 0
 have c1:=(hBh.below hW).cell 0
 simp only [List.getElem?_cons_zero] at c0 c1
 have HW:=ae (fun W1 (hb:Below W.heap.size W W1)=>Zz (N:=(dR K (128 - d i) i).length) (l:=l) (J:=fun s W=>∃s':List (Ym S),s'.map (·.1)=s∧J s' W) (Jx:=fun s W=>∃s':List (Ym S),s'.map (·.1)=s∧Jx s' W) hV h0 hL (fun s W W' hs hb=>by
  obtain⟨s',e,hs⟩:=hs
  exact⟨s',e,hJ s' W W' none hs (kU hb) (fun r e=>by cases e)⟩) (fun m pre x W hx hp hl=>by
  obtain⟨s',e,hs⟩:=hp
  refine Ze (Fb m (hY s' ⟨x,hx⟩ W hs (by rw [← e,bM] at hl;exact hl))) ?_
  rintro e2 W2 (⟨h1,h2,h3⟩ | ⟨h1,h2⟩)
  ·exact .inl ⟨h1,⟨s' ++ [⟨x,hx⟩],by rw [ig,e];rfl,h2⟩,h3⟩
  ·exact .inr ⟨h1,_,by rw [ig,e];rfl,h2⟩) (128 - d i) i nd hi rfl (n - 1) [] W1 (hIW.trans (Yy.below hb)) ⟨[],rfl,hJ _ _ _ none hj (kU hb) (fun r e=>by cases e)⟩ (by simp))
 have HBs:=ae (hBs.below hW)
 have HBh:=ae (hBh.below hW)
 clear hY hj hJ hJx hI hIW hBs hBh
 refine XL Tryz.func73 rfl trivial ?_ rfl
 simp only [Tryz.ntmps73,gZ,List.length_cons,List.length_nil,Nat.reduceAdd,Nat.reduceSub,ji,Array.replicate_zero,jS,jE,List.nil_append,List.cons_append]
 gi_wp2
 refine⟨trivial,fun h=>(by cases h),(jP.2 HAt.out).mono ?_⟩
 rintro e W1 ⟨rfl,hb1⟩
 have HW1:=ae (HW.out W1 hb1)
 have d0:=(HBs.out.below hb1).cell 0
 have d1:=(HBh.out.below hb1).cell 0
 simp only [List.getElem?_cons_zero] at d0 d1
 clear hb1 c0 c1 HW
 gi_wp2
 refine⟨trivial,fun h=>(by cases h),HW1.out.mono ?_⟩
 rintro e W2 (⟨rfl,hj2,hk2⟩ | ⟨rfl,q,hq2,hx2⟩)
 ·have HJ2:=ae hj2
  clear hj2 hk2
  gi_wp2
  go_end0
  obtain⟨s',e,h⟩:=HJ2.out
  exact⟨⟨_,rfl⟩,.inl ⟨s',by simpa using e,h⟩⟩
 ·have HX:=ae hx2
  have HQ:=ae hq2
  clear hx2 hq2
  gi_wp2
  go_end0
  obtain⟨s',e,h⟩:=HX.out
  exact⟨⟨_,rfl⟩,.inr ⟨s',by rw [e];simpa using HQ.out,h⟩⟩
end Go.Proofs.YtfelmdkeaacfeaaGreatDoor.W
end
section
namespace Go.Proofs.YtfelmdkeaacfeaaGreatDoor.W
open Go.RowKit
attribute [local go_sem] Oper.semAt_some
theorem YT (B b:Nat)(l s:List UInt8)(w:World)(h:Lib.IsBuilderF 124 5 B b (Lib.byteCells l) w)(hlen:l.length+s.length≤1000000000)(hBw:B≤w.heap.size) :
  Calls Tryz.prog 75 #[.pointer (some ⟨b,0,none⟩),.string ⟨s.toArray⟩] w fun e w'=>(∃v,e=.returned v)∧(Lib.IsBuilderF 124 5 B b (Lib.byteCells (l ++ s)) w'∧Below B w w'∧Lib.OthersKept 5 (some b) w w'):=by
 obtain⟨i0,hi,hz0,hz1,hz2⟩:=WY Z7
 go_enter Tryz.func75,Tryz.ntmps75
 go_wp2_with (go_at_call 114;refine(QD B b _ _ h).mono ?_)
 rintro e w1 ⟨rfl,h1,hb1,hk1⟩
 obtain⟨hB,v,hbk,hown,hne⟩:=h1
 have c0:w1.cell? ⟨b,0,none⟩=some (.pointer (some ⟨b,0,none⟩)):=by rw [iQ hbk];rfl
 have c1:w1.cell? ⟨b,1,none⟩=some v:=by rw [iQ hbk];rfl
 have hll:(Lib.byteCells l).length=l.length:=by simp [Lib.byteCells]
 rw [hll] at hown
 go_wp2_with (at_builtin;refine Lib.wpList_append_own_stringF _ rfl _ _ 122 9 rfl B 5 i0 Tryz.underlying122 Tryz.underlying9 hi hz0 hz1 hz2 _ _ _ rfl hown ⟨s.toArray⟩ rfl ?c3 ?c4 ?c5 ?_)
 case c3=>unfold maxLen;simp [ByteArray.size];omega
 case c4=>simp [ByteArray.size];omega
 case c5=>have:=hb1.size;omega
 intro v' w2 hown' hgrow _
 have hlt:b < w1.heap.size:=zA hbk
 have hb2:w2.heap[b]? = some (.cells #[.pointer (some ⟨b,0,none⟩),v] 124 (0,0)):=by
  rw [hgrow.block b hlt (fun e=>hne e.symm)]
  exact hbk
 have d0:w2.cell? ⟨b,0,none⟩=some (.pointer (some ⟨b,0,none⟩)):=by rw [iQ hb2];rfl
 have d1:w2.cell? ⟨b,1,none⟩=some v:=by rw [iQ hb2];rfl
 have f1:w2.frozen? ⟨b,1,none⟩=false:=kG hb2 1
 have hkk:Lib.OthersKept 5 (some b) w1 w2:=(XC _ _ w1).grown hgrow (fun g hg=>by
  rcases hown.2 with ⟨hv,_⟩ | ⟨g',cap,cur,fz,hv,_,hh,_⟩
  ·rw [hv] at hg;cases hg
  ·rw [hv] at hg
   cases hg
   exact⟨cur,fz,hh⟩)
 have hbb:Below B w1 w2:=(ak B w1).grown hgrow (by have:=hb1.size;omega) (fun k hk=>(hown.lt k hk).1)
 have hcs:Lib.byteCells l ++ Lib.strCells ⟨s.toArray⟩=Lib.byteCells (l ++ s):=by simp [Lib.byteCells,Lib.strCells]
 obtain⟨ao,n',cap,rfl⟩:∃ao n' cap,v'=.slice ao n' cap:=by
  rcases hown'.2 with ⟨hv,_⟩ | ⟨g,cap,cur,fz,hv,_⟩
  ·exact⟨_,_,_,hv⟩
  ·exact⟨_,_,_,hv⟩
 have Hown':=ae hown'
 have HKK:=ae (hk1.trans hkk)
 have HB2:=ae hb2
 have HBB:=ae (hb1.trans hbb)
 clear hown' hgrow hb2 hbb hkk hown hbk hne c0 c1 hk1
 go_wp2_with fail
 go_ret2
 refine⟨⟨_,rfl⟩,?_,?_,?_⟩
 ·refine .inr (Lib.BuilderAtF.put (T:=124) (e:=5) hB HB2.out (bs':=Lib.byteCells (l ++ s)) ?_ V7)
  have:=Hown'.out
  rw [hcs] at this
  simpa [Lib.byteCells,ByteArray.size] using this
 ·exact HBB.out.setCell (p:=⟨b,1,none⟩) hB _
 ·exact HKK.out.setCell ⟨b,1,none⟩ rfl _
def Zh (S:Tr)(l:List Nat):List UInt8:=l.flatMap fun x=>match S.at x with | some n=>if n.kind=3 then n.data else [] | none=>[]
theorem ZL (S:Tr)(l:List Nat)(x:Nat)(n:Nd)(h:S.at x=some n):Zh S (l ++ [x])=Zh S l ++ (if n.kind=3 then n.data else []):=by
 unfold Zh;rw [jT];simp [h]
theorem YY {S:Tr}(h:∀x n,S.at x=some n→n.data.length≤20000):∀l:List Nat,(Zh S l).length≤20000*l.length
 | []=>by simp [Zh]
 | x :: l=>by
  have h1:=YY h l
  have h2:Zh S (x :: l)=(match S.at x with | some n=>if n.kind=3 then n.data else [] | none=>[]) ++ Zh S l:=rfl
  rw [h2,aA,List.length_cons]
  have h3:(match S.at x with | some n=>if n.kind=3 then n.data else [] | none=>([]:List UInt8)).length≤20000:=by
   cases e:S.at x with
   | none=>simp
   | some n =>
    have:=h x n e
    show(if n.kind=3 then n.data else []).length≤_
    split
    ·exact this
    ·simp
  omega
theorem ZA {R:Nat}{S:Tr}{sv fv:Value}{w:World}(h:fZ 0 R S sv fv w){k:Nat}(hk:yR R S sv fv k):∃cur t,w.heap[k]? = some (.cells cur t (0,0))∧t≠5:=by
 rcases hk with rfl | hk | hk | ⟨i,n,hi,hne,hk⟩
 ·exact⟨_,_,h.blk,by decide⟩
 ·obtain⟨cur,hc⟩:=gJ h.slots hk
  exact⟨cur,_,hc,by decide⟩
 ·obtain⟨cur,hc⟩:=gJ h.free hk
  exact⟨cur,_,hc,by decide⟩
 ·obtain⟨cur,hc⟩:=JK (h.attrs i n (dN hi)) hne hk
  exact⟨cur,_,hc,by decide⟩
theorem Zo {B b:Nat}{bs:List Value}{W W':World}{row:Option Nat}(h:Lib.IsBuilderF 124 5 B b bs W)(hg:W.grownBy W' row)(hr:∀r,row=some r→∃o:Obj,W.heap[r]? = some o∧o.isCells=false):Lib.IsBuilderF 124 5 B b bs W':=by
 have key:∀p,Lib.BuilderAtF 124 5 B b p bs W→Lib.BuilderAtF 124 5 B b p bs W':=fun p ⟨hB,v,hb,hown,hne⟩=>by
  refine⟨hB,v,(hg.block b (zA hb) (fun e=>?_)).trans hb,hown.kept hg ?_,hne⟩
  ·obtain⟨o,ho,hc⟩:=hr b e.symm
   rw [hb] at ho;cases ho;cases hc
  ·rcases hown.2 with ⟨hv,_⟩ | ⟨g',cap,cur,fz,hv,_,hh,_⟩
   ·rw [hv];exact .inl rfl
   ·rw [hv]
    refine .inr (fun e=>?_)
    obtain⟨o,ho,hc⟩:=hr g' e.symm
    rw [hh] at ho;cases ho;cases hc
 exact h.elim (fun x=>.inl (key _ x)) (fun x=>.inr (key _ x))
theorem ZF {b:Nat}{W W':World}(hs:W.heap.size≤W'.heap.size)(h:Lib.OthersKept 5 (some b) W W')(hb:∃cs t fr,W.heap[b]? = some (Obj.cells cs t fr)):KeepsOthers W W'∧Yy (fun k o=>k=b∨∃c fz,o=.cells c 5 fz) W W':=by
 refine⟨⟨hs,fun k o hk ho=>h k o hk (fun e=>?_) (fun c fz e=>?_)⟩,hs,fun k cs t fr hk hp=>h k _ hk (fun e=>hp (.inl (cO e))) (fun c fz e=>hp (.inr ⟨c,fz,e⟩))⟩
 ·cases e
  obtain⟨cs,t,fr,hb⟩:=hb
  rw [hb] at hk;cases hk;cases ho
 ·subst e;cases ho
theorem YZ {R g cap:Nat}{S:Tr}{fv:Value}{w:World}{K:Nat→List Nat}{d:Nat→Nat}(h:fZ 0 R S (.slice (some ⟨g,0,none⟩) S.slots.length cap) fv w)(hL:Lk S K d)(i:Nat)(nd:Nd)(hi:S.at i=some nd)(hdt:∀x n,S.at x=some n→n.data.length≤20000)(hN:(dR K (128 - d i) i).length≤10000) :
  Calls Tryz.prog 30 #[.pointer (some ⟨R,0,none⟩),.int .i64 (S.hd i)] w fun e w'=>e=.returned (.string ⟨(Zh S (dR K (128 - d i) i)).toArray⟩)∧Below w.heap.size w w':=by
 refine(jP (n:=8)).1 ?_
 refine zZ Tryz.func30 rfl trivial ?_ rfl
 simp only [Tryz.ntmps30,gZ,List.length_cons,List.length_nil,Nat.reduceAdd,Nat.reduceSub,ji,Array.replicate_zero,jS,jE,List.nil_append,List.cons_append]
 refine wpIn_wide.2 ?_
 have k1:=(dD.new w [.pointer (some ⟨R,0,none⟩)] 29).alloc (.cells #[.pointer none,.slice none 0 0] 124)
 have k2:=dD.new (w.alloc (.cells #[.pointer (some ⟨R,0,none⟩)] 29)) [.pointer none,.slice none 0 0] 124
 rw [show(w.alloc (.cells #[.pointer (some ⟨R,0,none⟩)] 29)).heap.size=w.heap.size+1 by simp] at k2
 have hb2:Below w.heap.size w ((w.alloc (.cells #[.pointer (some ⟨R,0,none⟩)] 29)).alloc (.cells #[.pointer none,.slice none 0 0] 124)):=((ak _ _).alloc (au _) _).alloc (by simp) _
 have hs2:((w.alloc (.cells #[.pointer (some ⟨R,0,none⟩)] 29)).alloc (.cells #[.pointer none,.slice none 0 0] 124)).heap.size=w.heap.size+2:=by simp
 have c0:=k1.cell 0
 simp only [List.getElem?_cons_zero] at c0
 go_upto_region 2 with fail
 change dD ((w.alloc (.cells #[.pointer (some ⟨R,0,none⟩)] 29)).alloc (.cells #[.pointer none,.slice none 0 0] 124)) _ _ _ at k2
 generalize (w.alloc (.cells #[.pointer (some ⟨R,0,none⟩)] 29)).alloc (.cells #[.pointer none,.slice none 0 0] 124)=w2 at *
 go_wp2_with fail
 refine(walk_any R (S.hd i) w2).mono ?_
 rintro e w4 ⟨rfl,hw4⟩
 have hs4:w4.heap.size=w.heap.size+4:=by rw [hw4];simp [hs2]
 have hb4:Below w.heap.size w w4:=by rw [hw4];exact(hb2.alloc hb2.size _).alloc (by simp;omega) _
 have k4:dD w4 (w.heap.size+1) [.pointer none,.slice none 0 0] 124:=by rw [hw4];exact(k2.alloc _).alloc _
 have hBs:dD w4 w2.heap.size [.pointer (some ⟨R,0,none⟩)] 29:=by rw [hw4];exact(dD.new w2 [.pointer (some ⟨R,0,none⟩)] 29).alloc _
 have hBh:dD w4 (w2.heap.size+1) [.int .i64 (S.hd i)] 3:=by
  have k2:=dD.new (w2.alloc (.cells #[.pointer (some ⟨R,0,none⟩)] 29)) [.int .i64 (S.hd i)] 3
  rw [show(w2.alloc (.cells #[.pointer (some ⟨R,0,none⟩)] 29)).heap.size=w2.heap.size+1 by simp] at k2
  rw [hw4];exact k2
 have k4t:dD w4 w.heap.size [.pointer (some ⟨R,0,none⟩)] 29:=by rw [hw4];exact(k1.alloc _).alloc _
 have hT4:fZ 0 R S (.slice (some ⟨g,0,none⟩) S.slots.length cap) fv w4:=h.below hb4
 have h0:∀W,Yy (fun k o=>k=w.heap.size+1∨∃c fz,o=.cells c 5 fz) w4 W→fZ 0 R S (.slice (some ⟨g,0,none⟩) S.slots.length cap) fv W:=fun W hk=>hT4.wkv hk (fun k cs t fr hF hc hp=>by
  rcases hp with e | ⟨c,fz,e⟩
  ·obtain⟨cur,t',h1,_⟩:=ZA h hF
   have:=hlt h1
   omega
  ·obtain⟨cur,t',h1,h2⟩:=ZA hT4 hF
   rw [hc] at h1
   cases h1;cases e
   exact h2 rfl)
 have hV:Z8 (fun k o=>k=w.heap.size+1∨∃c fz,o=.cells c 5 fz) w4.heap.size:=fun k cs fr hk hp=>by
  rcases hp with e | ⟨c,fz,e⟩
  ·omega
  ·cases e
 have HS2:=ae hs2
 have HS4:=ae hs4
 have HSq:=ae (fun m=>Zl (n:=m) hV h0 hL nd hi ⟨au _,fun k cs t fr hk _=>hk⟩ hBs hBh)
 have HB4:=ae hb4
 have HK4:=ae k4
 have HK4t:=ae k4t
 have HAt:=ae (fun(x:Ym S) W (hW:Below w.heap.size w W)=>bV (h.below hW) (S.hd x.1) (hd_ok hL (Option.some_get x.2).symm).1 (fV hL (Option.some_get x.2).symm))
 have HTt:=ae h
 have HDt:=ae hdt
 clear hw4 hBs hBh k1 k2 hb2 c0 k4 hs2 hs4 k4t hT4 h0 hV h hdt
 go_wp2_with fail
 refine(wpIn_wide (n:=8)).1 ?_
 refine xE (α:=Ym S) (fun x a=>{ tmps:=(a.tmps.setIfInBounds 11 (.int .i64 (S.hd x.1))).setIfInBounds 6 (.int .i64 (S.hd x.1)),defers:=[] }) (by omega) (gf:=73) (lb:=#[.pointer (some ⟨w2.heap.size,0,none⟩),.pointer (some ⟨w2.heap.size+1,0,none⟩)]) rfl (enters_of Tryz.func73 (by kernel_rfl) rfl) (HSq.out 7) Yy.trans (fun W l o o' hl h hc _=>Yy.put l o o' h hc) (fun _=>rfl)
  (fun pre W=>Below w.heap.size w W∧Lib.IsBuilderF 124 5 (w.heap.size+1) (w.heap.size+1) (Lib.byteCells (Zh S (pre.map (·.1)))) W∧dD W w.heap.size [.pointer (some ⟨R,0,none⟩)] 29) (fun c pre W=>False) ?own (fun _ _ _ _ _ hs _ _=>hs) ⟨HB4.out,Lib.IsBuilderF.of (.inl ⟨au _,.slice none 0 0,HK4.out,aG _ _ _ _,by simp [Value.ownBlock]⟩),HK4t.out⟩ ?assign ?body ?done ?stop
 case own =>
  rintro pre W W' row ⟨h1,h2,h3⟩ hg hr
  exact⟨h1.grown hg h1.size (fun k e=>by have:=(hr k e).1;have:=HS4.out;omega),Zo h2 hg (fun r e=>(hr r e).2),Io h3 hg hr⟩
 case assign =>
  intro l x W K hK
  gi_wp2
  exact hK
 case stop =>
  intro D c pre W hD hs hx
  cases hx
 case body =>
  rintro l' pre x W ⟨h1,h2,h3⟩ hlt'
  obtain⟨n,hn⟩:=aB.1 x.2
  have cb:=h3.cell 0
  simp only [List.getElem?_cons_zero] at cb
  have hpl:=YY HDt.out (pre.map (·.1))
  rw [bM] at hpl
  have hnl:=HDt.out _ n hn
  have hcs:=ZL S (pre.map (·.1)) x.1 n hn
  have HCs:=ae (show Zh S ((pre ++ [x]).map (·.1))=Zh S (pre.map (·.1)) ++ (if n.kind=3 then n.data else []) by rw [ig];exact hcs)
  have HI1:=ae h1
  have HI2:=ae h2
  have HI3:=ae h3
  have HN:=ae hn
  have HA:=ae (HAt.out x W h1)
  have HBb:=ae (show ∃cs t fr,W.heap[w.heap.size+1]? = some (Obj.cells cs t fr) by
   rcases h2 with ⟨_,v,hb,_⟩ | ⟨_,v,hb,_⟩
   ·exact⟨_,_,_,hb⟩
   ·exact⟨_,_,_,hb⟩)
  clear h1 h2 h3 hcs hn
  simp only [dL,dK,dJ]
  gi_wp2_with fail
  refine⟨trivial,(CallsIn.inRound l' (jP.2 HA.out)).mono ?_⟩
  rintro e w5 ⟨rfl,hb5⟩
  have hB5:=HI1.out.trans (hb5.mono HI1.out.size)
  have ck:=bK (HTt.out.below hB5) HN.out 0 (by omega)
  have cd:=bK (HTt.out.below hB5) HN.out 3 (by omega)
  simp only [jd,fQ,fP] at ck cd
  have hbl5:=Zo HI2.out (kU hb5) (fun r e=>by cases e)
  have HB5:=ae hB5
  have HI5:=ae hbl5
  have HK5:=ae (HI3.out.below hb5)
  have Hb5:=ae hb5
  clear hB5 hbl5 hb5 cb
  by_cases hk:n.kind=3
  ·rw [hk] at ck
   simp only [dA] at cd
   rw [aC hk] at HCs
   have HW:=ae (YT (w.heap.size+1) (w.heap.size+1) (Zh S (pre.map (·.1))) n.data w5 HI5.out (by omega) (by have:=HB5.out.size;have:=(HK5.out).lt;omega))
   gi_wp2_with fail
   refine⟨trivial,(CallsIn.inRound l' (jP.2 HW.out)).mono ?_⟩
   rintro e w6 ⟨⟨v,rfl⟩,hbl,hb6,hk6⟩
   have hb5':∃cs t fr,w5.heap[w.heap.size+1]? = some (Obj.cells cs t fr):=by
    obtain⟨cs,t,fr,hb⟩:=HBb.out
    exact⟨cs,t,fr,(Hb5.out.block _ (hlt hb)).trans hb⟩
   obtain⟨q1,q2⟩:=ZF hb6.size hk6 hb5'
   have HQ1:=ae ((pW Hb5.out).trans q1)
   have HQ2:=ae ((Yy.below Hb5.out).trans q2)
   have HB6:=ae (HB5.out.trans (hb6.mono (by omega)))
   have HI6:=ae hbl
   have HK6:=ae (show dD w6 w.heap.size [.pointer (some ⟨R,0,none⟩)] 29 from hb6.block _ (by omega) |>.trans HK5.out)
   clear hbl hb6 hk6 q1 q2 ck cd
   gi_wp2_with fail
   exact⟨HQ1.out,HQ2.out,HB6.out,by rw [HCs.out];exact HI6.out,HK6.out⟩
  ·have hk':(n.kind == 3)=false:=by simpa using hk
   rw [ax hk,aT] at HCs
   gi_wp2_with fail
   exact⟨pW Hb5.out,Yy.below Hb5.out,HB5.out,by rw [HCs.out];exact HI5.out,HK5.out⟩
 case done =>
  rintro D ys W hD hys ⟨h1,hI,h2⟩ hK
  rw [hys] at hI
  have hWl:=h2.lt
  have hDl:=hlt hK
  have HK:=ae hK
  have H1:=ae h1
  have HI:=ae hI
  have hsz:w.heap.size+1≤W.heap.size:=by omega
  clear hI h1 h2 hK HSq hys
  go_wp2_with fail
  refine(Tryz.Builder_String_any_k (w.heap.size+1) (w.heap.size+1) _ W HI.out (by omega)).mono ?_
  rintro e w5 ⟨rfl,_,hb5,ho5⟩
  have hD5:w5.heap[D]? = some (.deferred (some [])):=ho5 D _ HK.out (by simp;have:=HS4.out;omega) (fun c fz e=>by cases e)
  have HB5:=ae (H1.out.trans (hb5.mono (by omega)))
  have hDl5:=hlt hD5
  go_wp2_with fail
  refine DL hD5 ?_
  refine⟨.string ⟨(Zh S (dR K (128 - d i) i)).toArray⟩,?_,rfl,Gm _ HB5.out (by have:=HS4.out;omega) hDl5⟩
  simp [results,Tryz.f30,go_sem]
end Go.Proofs.YtfelmdkeaacfeaaGreatDoor.W
end
section
namespace Go.Proofs.YtfelmdkeaacfeaaGreatDoor.W
open Go.RowKit
theorem YW {σ : Nat→Nat}{x:Nat}:∀{l:List Nat},(∀a∈l,σ a=σ x→a=x)→(l.map σ).idxOf (σ x)=l.idxOf x
 | [],_=>rfl
 | a :: l,h=>by
  rw [fE]
  by_cases e:a=x
  ·subst e;rw [List.idxOf_cons_self,List.idxOf_cons_self]
  ·rw [YM e,YM (fun e2=>e (h a (by simp) e2)),YW (fun b hb=>h b (by simp [hb]))]
section
variable {E : Nat → Prop} {c x0 : Nat} {S : Tr} {K : Nat → List Nat} {d : Nat → Nat} {M : List MN} {σ : Nat → Nat}
theorem YU (T:CX True E c x0 S K d M σ):∀(f x:Nat) (m:MN),lv M x=some m→σ (Yq M f x)=Yo S f (σ x)∧∃mt,lv M (Yq M f x)=some mt
 | 0,x,m,h=>⟨rfl,m,h⟩
 | f+1,x,m,h=>by
  have hp:=T.tw.pr T.ok.lk h
  have hm:=MS h
  cases e:m.par with
  | none =>
   rw [e] at hp hm
   simp only [Yq,Yo,hp,hm,Option.map_none]
   exact⟨trivial,m,h⟩
  | some p =>
   rw [e] at hp hm
   obtain⟨mp,hmp,_⟩:=T.tw.par x m p h e
   simp only [Yq,Yo,hp,hm,Option.map_some]
   exact YU T f p mp hmp
structure zab (S:Tr) (K:Nat→List Nat) (d:Nat→Nat) (M:List MN) (σ : Nat→Nat) (x y tx:Nat) (wl:List Nat):Prop where
 inx:x∈wl
 yes:y∈wl→YP S K d (σ x) (σ y)=(Yv (wl.idxOf x) (wl.idxOf y),0)
 no:y∉wl→YP S K d (σ x) (σ y)=(0,6)
 nd:wl.Nodup
theorem ZC (T:CX True E c x0 S K d M σ){x y:Nat}{mx my:MN}(hx:lv M x=some mx)(hy:lv M y=some my) :
  zab S K d M σ x y (Yq M (d (σ x)) x) (dR (kM M) (128 - d (σ (Yq M (d (σ x)) x))) (Yq M (d (σ x)) x)):=by
 obtain⟨h1,mt,hmt⟩:=YU T (d (σ x)) x mx hx
 obtain⟨h2,mu,hmu⟩:=YU T (d (σ y)) y my hy
 obtain⟨nx,hnx,_⟩:=T.tw.node x mx hx
 obtain⟨ny,hny,_⟩:=T.tw.node y my hy
 have sx:(S.at (σ x)).isSome=true:=by rw [hnx];rfl
 have sy:(S.at (σ y)).isSome=true:=by rw [hny];rfl
 obtain⟨p1,p2,p3,p4⟩:=Yt T.ok.lk (d (σ x)) (σ x) rfl sx
 have hw:=T.tw.dR (128 - d (σ (Yq M (d (σ x)) x))) _ mt hmt
 have hnd:=pg T.ok.lk (128 - d (σ (Yq M (d (σ x)) x))) (σ (Yq M (d (σ x)) x)) (by rw [h1];exact p3)
 have hlive:=T.tw.qO (128 - d (σ (Yq M (d (σ x)) x))) _ mt hmt
 have hinj:∀{z mz},lv M z=some mz→∀a∈dR (kM M) (128 - d (σ (Yq M (d (σ x)) x))) (Yq M (d (σ x)) x),σ a=σ z→a=z:=fun {z mz} hz a ha e=>by
  obtain⟨ma,hma⟩:=hlive a ha
  exact T.tw.inj a z ma mz hma hz e
 have hndM:(dR (kM M) (128 - d (σ (Yq M (d (σ x)) x))) (Yq M (d (σ x)) x)).Nodup:=by
  rw [hw] at hnd
  rw [XY] at hnd ⊢
  rw [XF] at hnd
  exact hnd.imp (fun h e=>h (by rw [e]))
 have mem:∀{z mz},lv M z=some mz→(σ z∈(dR (kM M) (128 - d (σ (Yq M (d (σ x)) x))) (Yq M (d (σ x)) x)).map σ↔z∈dR (kM M) (128 - d (σ (Yq M (d (σ x)) x))) (Yq M (d (σ x)) x)):=fun {z mz} hz=>by
  constructor
  ·intro h
   obtain⟨a,ha,e⟩:=bC.1 h
   exact hinj hz a ha e ▸ ha
  ·exact fun h=>bC.2 ⟨z,h,rfl⟩
 refine⟨?_,fun hin=>?_,fun hno=>?_,hndM⟩
 ·rw [← mem hx,← hw,h1]
  have:=T.ok.lk.one _ p3 p4
  have:=T.ok.lk.low (σ x)
  exact p1.mem _ (by rw [List.length_reverse];omega)
 ·have hy':=(mem hy).2 hin
  rw [← hw,h1] at hy'
  have he:=ZT T.ok.lk sx hy'
  obtain⟨_,_,k3⟩:=Zd T.ok.lk sx sy he.symm (by rw [← h1];exact hnd)
  unfold YP
  rw [aC he.symm,k3,← h1,hw,YW (hinj hx),YW (hinj hy)]
 ·unfold YP
  rw [ax (fun e=>hno ?_)]
  obtain⟨_,k2,_⟩:=Zd T.ok.lk sx sy e (by rw [← h1];exact hnd)
  rw [← h1,hw] at k2
  exact(mem hy).1 k2
def Zx (M:List MN)(l:List Nat):List UInt8:=l.flatMap fun x=>match lv M x with | some m=>if m.kind=3 then m.data else [] | none=>[]
theorem Zi (T:CX True E c x0 S K d M σ):∀{l:List Nat},(∀y∈l,∃m,lv M y=some m)→Zh S (l.map σ)=Zx M l
 | [],_=>rfl
 | y :: l,h=>by
  obtain⟨m,hm⟩:=h y (by simp)
  obtain⟨n,hn,a1,_,a3,_⟩:=T.tw.node y m hm
  have ih:=Zi T (l:=l) (fun z hz=>h z (by simp [hz]))
  show(match S.at (σ y) with | some n=>if n.kind=3 then n.data else [] | none=>[]) ++ Zh S (l.map σ)=(match lv M y with | some m=>if m.kind=3 then m.data else [] | none=>[]) ++ Zx M l
  rw [ih,hn,hm]
  simp only [a1,a3]
theorem ZM (M:List MN)(l:List Nat)(x:Nat)(m:MN)(h:lv M x=some m):Zx M (l ++ [x])=Zx M l ++ (if m.kind=3 then m.data else []):=by
 unfold Zx;rw [jT];simp [h]
end
end Go.Proofs.YtfelmdkeaacfeaaGreatDoor.W
end
section
namespace Go.Proofs.YtfelmdkeaacfeaaGreatDoor.W
open Go.RowKit
theorem UW.below {w w':World}{A:Option Addr}{n:Nat}{f:Nat→ou}(h:UW w A n f)(hb:Below w.heap.size w w'):UW w' A n f:=fun hn=>by
 obtain⟨b,off,e,hl,hc⟩:=h hn
 refine⟨b,off,e,aO hl hb.size,fun j hj=>?_⟩
 obtain⟨h0,h1,h2,h3,h4,h5,h6,h7⟩:=hc j hj
 exact⟨aU hb h0,aU hb h1,aU hb h2,aU hb h3,aU hb h4,aU hb h5,aU hb h6,aU hb h7⟩
theorem ou.In.ok {o:ou}(h:o.In)(h1:o.s.length≤40∧o.t.length≤40):o.Ok:=⟨h.k,h.a,h.b,h.c,h1.1,h1.2,h.n,h.kk⟩
end Go.Proofs.YtfelmdkeaacfeaaGreatDoor.W
end
section
namespace Go.Proofs.YtfelmdkeaacfeaaGreatDoor.W
open Go.RowKit
theorem uP.len {M:List MN}{D:Nat→Nat}{o:ou}{M':List MN}{rs:List Rc}(h:uP M D o M' rs){N:Nat}(hN:∀f i m,lv M i=some m→(dR (kM M) f i).length≤N)(h1:1≤N):M'.length≤M.length+N:=by
 have l1:∀(L:List MN) p j c,(oU L p j c).length=L.length:=fun L p j c=>by unfold oU;simp
 have l2:∀(L:List MN) p j c,(uH L p j c).length=L.length:=fun L p j c=>by unfold uH;simp
 have l3:∀(L:List MN) l,(pX L l).length=L.length:=fun L l=>by unfold pX;simp
 cases h with
 | make M2 en hk hm=>cases hm <;> (try simp) <;> omega
 | off hk h=>omega
 | ins ma mb M2 rs2 en hk ha hb hc hm =>
  cases hm with
  | no h=>omega
  | other b mb h e hb hp=>omega
  | far h ho hd=>omega
  | ok M3 rs3 h ho hd hm=>cases hm <;> (try simp only [l1,l2]) <;> omega
 | rem ma M2 rs2 en hk ha hm=>cases hm <;> (try simp only [l2]) <;> omega
 | Rk ma M2 rs2 en hk ha hm=>cases hm <;> (try simp) <;> omega
 | Sl ma M2 rs2 en hk ha hm=>cases hm <;> (try simp) <;> omega
 | rep ma M2 rs2 en hk ha hm=>cases hm <;> (try simp) <;> omega
 | cpy ma M2 en hk ha hm =>
  cases hm with
  | doc h=>omega
  | deep h hd =>
   have:=hN (128 - D (o.iA M.length)) _ _ ha
   simp;omega
  | flat h hd=>simp;omega
 | dro ma M2 en hk ha hm=>cases hm <;> (try simp only [l3]) <;> omega
end Go.Proofs.YtfelmdkeaacfeaaGreatDoor.W
end
section
namespace Go.Proofs.YtfelmdkeaacfeaaGreatDoor.W
open Go.RowKit
theorem ZK {l:List Nat}(h:l.Nodup){i j c:Nat}(hi:l[i]? = some c)(hj:l[j]? = some c):i=j :=
 (iK (ai.1 hi).1 h).1 (hi.trans hj.symm)
end Go.Proofs.YtfelmdkeaacfeaaGreatDoor.W
end
section
namespace Go.Proofs.YtfelmdkeaacfeaaGreatDoor.W
open Go.RowKit
theorem Zk {B R:Nat}{S:Tr}{sv fv:Value}{w:World}(h:fZ B R S sv fv w)(ha hb:Int)(hha:uY ha)(hk:S.ix ha=none) :
  Calls Tryz.prog 32 #[.pointer (some ⟨R,0,none⟩),.int .i64 ha,.int .i64 hb] w fun e w'=>e=.returned (.bool false)∧Below w.heap.size w w':=by
 have HA:=ae (qI h ha hha hk)
 clear h hk
 go_enter Tryz.func32,Tryz.ntmps32
 go_wp2_with fail
 refine HA.out.mono ?_
 rintro e w2 ⟨rfl,hb⟩
 go_wp2_with fail
 go_ret
 exact⟨rfl,hb⟩
theorem Zj {B R g cap:Nat}{S:Tr}{fv:Value}{w:World}{K:Nat→List Nat}{d:Nat→Nat}(h:fZ B R S (.slice (some ⟨g,0,none⟩) S.slots.length cap) fv w)(hL:Lk S K d)(i:Nat)(n:Nd)(hi:S.at i=some n)(hb:Int)(hhb:uY hb)(hk:S.ix hb=none) :
  Calls Tryz.prog 32 #[.pointer (some ⟨R,0,none⟩),.int .i64 (S.hd i),.int .i64 hb] w fun e w'=>e=.returned (.bool false)∧Below w.heap.size w w':=by
 have HA:=ae (bV h (S.hd i) (hd_ok hL hi).1 (fV hL hi))
 have HB:=ae (fun wx (hx:Below w.heap.size w wx)=>qI (h.below hx) hb hhb hk)
 clear h hk hi hL
 go_enter Tryz.func32,Tryz.ntmps32
 go_wp2_with fail
 refine HA.out.mono ?_
 rintro e w2 ⟨rfl,hb2⟩
 go_wp2_with fail
 refine(HB.out _ hb2).mono ?_
 rintro e w3 ⟨rfl,hb3⟩
 have hb4:=aV hb2 hb3
 go_wp2_with fail
 go_loopw [2,7] (fun bv nv wr=>nv=.pointer none∧Below w.heap.size w wr) (fun _ _ _=>0)
 case atStart=>exact⟨rfl,hb4⟩
 case round =>
  obtain⟨rfl,hB⟩:=hrel
  go_wp2_with fail
  go_ret
  exact⟨rfl,hB⟩
structure Zp (w0:World) (b7 g:Nat) (w:World):Prop where
 bx:dD w b7 [.pointer (some ⟨g,0,none⟩)] 25
 lo:Below w0.heap.size w0 w
def Y0 (b6 b7 g:Nat):List Ob:=[bk b7 [.pointer (some ⟨g,0,none⟩)] 25,bk b6 [.bool false] 4]
def LoR (w:World)(b6 b7 g n:Nat)(iv:Value)(wr:World):Prop:=∃i:Nat,i≤n∧iv=.int .i64 (i:Int) ∧
 ∃R Q hv sv fv nv S K d X σ,All w.heap.size w (kK g R Q hv (iZ S σ (ms X)) S sv fv nv X ++ Y0 b6 b7 g) wr∧CX True (fun _=>False) i 0 S K d (ms X) σ∧X.length≤600
section
variable {ex : Prop} {E : Nat → Prop} {c x : Nat} {B : Nat} {w0 w : World} {b6 b7 g R Q : Nat} {hv sv fv nv : Value} {Hs : List Int} {S : Tr} {K : Nat → List Nat} {d : Nat → Nat} {X : List MX} {σ : Nat → Nat} {o : ou} {M : List MN}
theorem Yr (hA:All w0.heap.size w0 (kK g R Q hv Hs S sv fv nv X ++ Y0 b6 b7 g) w):Zp w0 b7 g w:=⟨hA.P (bk b7 _ _) (by simp [Y0]),hA.below⟩
theorem zaa (hA:All w0.heap.size w0 (kK g R Q hv Hs S sv fv nv X ++ Y0 b6 b7 g) w)(w':World)(h:jc w w'):Zp w0 b7 g w':=Yr (hA.still h)
theorem Z9 (v:Value)(w':World)(h:E8 ex E c x w0.heap.size w0 (Y0 b6 b7 g) g R Q S K d M σ o (.returned v) w'):Zp w0 b7 g w':=by
 obtain⟨v,ok,S',K',d',X',σ',hv',sv',fv',nv',ts,rs,dl,_,hA,_⟩:=h
 exact Yr hA.tail
theorem Zw {l:List Ob}(v:Value)(w1 w2:World)(h:E8 ex E c x B w0 l g R Q S K d M σ o (.returned v) w1)(hb:Below w1.heap.size w1 w2):E8 ex E c x B w0 l g R Q S K d M σ o (.returned v) w2:=by
 obtain⟨v,ok,S',K',d',X',σ',hv',sv',fv',nv',ts,rs,dl,e,hA,h⟩:=h
 exact⟨v,ok,S',K',d',X',σ',hv',sv',fv',nv',ts,rs,dl,e,hA.still hb,h⟩
end
theorem YG {B b6:Nat}{w0 wz:World}(k6:dD wz b6 [.bool false] 4)(hb:Below B w0 wz)(hB:B≤b6)(v:Bool):(wz.setCell ⟨b6,0,none⟩ (.bool v)).cell? ⟨b6,0,none⟩=some (.bool v)∧Below B w0 (wz.setCell ⟨b6,0,none⟩ (.bool v)) :=
 ⟨(k6.set 0 (.bool v)).cell 0,hb.setCell (p:=⟨b6,0,none⟩) hB _⟩
section
variable {B : Nat} {w0 w : World} {l : List Ob} {g R Q : Nat} {hv sv fv nv : Value} {Hs : List Int} {S : Tr} {X : List MX}
theorem has_is (h:All B w0 (kK g R Q hv Hs S sv fv nv X ++ l) w)(i:Nat)(hx:i≤1000000)(hi:0 < X.length∧X.length≤1000000){bb:Bool}(hb:(lv (ms X) i).isSome=bb) :
  Calls Tryz.prog 20 #[.pointer (some ⟨Q,0,none⟩),.int .i64 (i:Int)] w fun e w'=>e=.returned (.bool bb)∧w'=w:=by
 have:=BV h i hx hi
 rw [hb] at this
 exact this
end
def Yw (l:List Nat)(x k:Nat):Int:=if x∈l.take k then(l.idxOf x:Int) else -1
theorem YR (l:List Nat)(x:Nat):Yw l x 0=-1:=by unfold Yw;simp
theorem Y6 {l:List Nat}{x k:Nat}(h:l.length≤k):Yw l x k=if x∈l then(l.idxOf x:Int) else -1:=by unfold Yw;rw [sZ h]
theorem Y5 {l:List Nat}{x k:Nat}(hn:l.Nodup)(h:l[k]? = some x):Yw l x (k+1)=(k:Int):=by
 unfold Yw
 have h1:l.take (k+1)=l.take k ++ [x]:=by rw [fJ,h];rfl
 rw [aC (by rw [h1];simp)]
 have:=ZK hn (YX (ah h)) h
 rw [this]
theorem Zm {l:List Nat}{x z k:Nat}(h:l[k]? = some z)(hne:z≠x):Yw l x (k+1)=Yw l x k:=by
 unfold Yw
 have h1:l.take (k+1)=l.take k ++ [z]:=by rw [fJ,h];rfl
 have h2:(x∈l.take (k+1))=(x∈l.take k):=by
  rw [h1];simp only [cZ,eF]
  exact propext ⟨fun h=>h.elim id (fun e=>absurd e.symm hne),.inl⟩
 simp only [h2]
def OpP (wq:World)(l:List Nat)(x y:Nat)(iv jv kv:Value)(wr:World):Prop:=wr=wq∧∃k:Nat,k≤l.length∧kv=.int .i64 (k:Int)∧iv=.int .i64 (Yw l x k)∧jv=.int .i64 (Yw l y k)
def VO4 (bc:Bool)(t tx:Int):List Value→Value→Prop
 | [],v=>v=.bool bc
 | [_],v=>v=.bool bc
 | [_,_],v=>v=.int .i64 t
 | _,v=>v=.int .i64 tx
def VO2 (tx:Int)(n:Nat):List Value→Value→Prop
 | [],v=>v=.int .i64 tx
 | _,v=>∃va vc,v=.slice va n vc
def FO2 (B:Nat)(wl:List Nat):List Value→World→Prop
 | [v,_],w'=>w'.ownsRow B 3 1 v wl.length (kC wl)
 | _,_=>True
theorem Zu {B:Nat}{wl:List Nat}(k:List Value)(w1 w2:World)(h:FO2 B wl k w1)(hb:Below w1.heap.size w1 w2):FO2 B wl k w2:=by
 match k,h with
 | [],_=>trivial
 | [_],_=>trivial
 | [v,_],h=>exact fH (show w1.ownsRow B 3 1 v wl.length (kC wl) from h) hb
 | _ :: _ :: _ :: _,_=>trivial
def YB (b16 b18 b19:Nat)(s:List UInt8)(bv:Value)(bl:List Nat)(n:Nat):List Ob :=
 [bk b19 [.int .i64 (n:Int)] 3,bk b18 [bv] 31,sl 3 1 bv bl.length (kC bl),bk b16 [.string ⟨s.toArray⟩] 9]
section
variable {B : Nat} {w0 w : World} {l : List Ob} {g R Q b6 b7 b16 b18 b19 n : Nat} {hv sv fv nv bv : Value} {Hs : List Int} {S : Tr} {X : List MX} {s : List UInt8} {bl : List Nat}
theorem YE (h:All B w0 (kK g R Q hv Hs S sv fv nv X ++ (YB b16 b18 b19 s bv bl n ++ l)) w):dD w b16 [.string ⟨s.toArray⟩] 9:=h.P (bk b16 _ _) (by simp [YB])
theorem Za (h:All B w0 (kK g R Q hv Hs S sv fv nv X ++ (YB b16 b18 b19 s bv bl n ++ l)) w):dD w b18 [bv] 31:=h.P (bk b18 _ _) (by simp [YB])
theorem Yx (h:All B w0 (kK g R Q hv Hs S sv fv nv X ++ (YB b16 b18 b19 s bv bl n ++ l)) w):dD w b19 [.int .i64 (n:Int)] 3:=h.P (bk b19 _ _) (by simp [YB])
theorem ZV (h:All B w0 (kK g R Q hv Hs S sv fv nv X ++ (YB b16 b18 b19 s bv bl n ++ l)) w):Own w 3 1 bv bl.length (kC bl):=h.P (sl 3 1 bv bl.length (kC bl)) (by simp [YB])
theorem ZI (h:All B w0 (kK g R Q hv Hs S sv fv nv X ++ (YB b16 b18 b19 s bv bl n ++ Y0 b6 b7 g)) w):dD w b7 [.pointer (some ⟨g,0,none⟩)] 25:=h.P (bk b7 _ _) (by simp [Y0])
theorem Zq (h:All B w0 (kK g R Q hv Hs S sv fv nv X ++ (YB b16 b18 b19 s bv bl n ++ Y0 b6 b7 g)) w):dD w b6 [.bool false] 4:=h.P (bk b6 _ _) (by simp [Y0])
theorem ZY (h:All B w0 (kK g R Q hv Hs S sv fv nv X ++ (YB b16 b18 b19 s bv bl n ++ l)) w)(s':List UInt8):All B w0 (kK g R Q hv Hs S sv fv nv X ++ (YB b16 b18 b19 s' bv bl n ++ l)) (w.setCell ⟨b16,0,none⟩ (.string ⟨s'.toArray⟩)):=by
 have h':All B w0 ((kK g R Q hv Hs S sv fv nv X ++ [bk b19 [.int .i64 (n:Int)] 3,bk b18 [bv] 31,sl 3 1 bv bl.length (kC bl)]) ++ bk b16 [.string ⟨s.toArray⟩] 9 :: l) w:=by
  rw [bu];exact h
 have:=h'.U4 _ 0 (.string ⟨s'.toArray⟩)
 rw [bu] at this
 exact this
theorem ZH (h:All B w0 (kK g R Q hv Hs S sv fv nv X ++ (YB b16 b18 b19 s bv bl n ++ l)) w):All B w0 (kK g R Q hv Hs S sv fv nv X ++ (YB b16 b18 b19 s bv bl (n+1) ++ l)) (w.setCell ⟨b19,0,none⟩ (.int .i64 ((n:Int)+1))):=by
 have:=All.U4 (kK g R Q hv Hs S sv fv nv X) (l2:=[bk b18 [bv] 31,sl 3 1 bv bl.length (kC bl),bk b16 [.string ⟨s.toArray⟩] 9] ++ l) h 0 (.int .i64 ((n:Int)+1))
 exact this
def PvO (b16 b19:Nat)(k:Nat)(o:Obj):Prop:=k=b16∨k=b19
theorem ZQ (h:All B w0 (kK g R Q hv Hs S sv fv nv X ++ (YB b16 b18 b19 s bv bl n ++ l)) w)(W:World)(hk:Yy (PvO b16 b19) w W):fZ 0 R S sv fv W :=
 (jF h).wkv hk (fun k cs t fr hF hc hp=>by
  have ap:=h.apart
  rw [Xj] at ap
  have key:∀o∈YB b16 b18 b19 s bv bl n ++ l,¬o.F k:=fun o ho=>ap.2.2 (Bg R S sv fv) (by simp [kK]) o ho k hF
  rcases hp with e | e
  ·exact key (bk b16 [.string ⟨s.toArray⟩] 9) (by simp [YB]) e
  ·exact key (bk b19 [.int .i64 (n:Int)] 3) (by simp [YB]) e)
theorem ZX (h:All B w0 (kK g R Q hv Hs S sv fv nv X ++ (YB b16 b18 b19 s bv bl n ++ l)) w):Z8 (PvO b16 b19) w.heap.size:=fun k cs fr hk hp=>by
 have h1:=(YE h).lt
 have h2:=(Yx h).lt
 rcases hp with e | e <;> omega
theorem ZZ {s0:List UInt8}{n0:Nat}(h:All B w0 (kK g R Q hv Hs S sv fv nv X ++ (YB b16 b18 b19 s0 bv bl n0 ++ l)) w){W W':World}(hI:All B w0 (kK g R Q hv Hs S sv fv nv X ++ (YB b16 b18 b19 s bv bl n ++ l)) W){row:Option Nat}(hg:W.grownBy W' row)(hr:∀k,row=some k→w.heap.size≤k∧∃o:Obj,W.heap[k]? = some o∧o.isCells=false):All B w0 (kK g R Q hv Hs S sv fv nv X ++ (YB b16 b18 b19 s bv bl n ++ l)) W' :=
 hI.grownBy hg (fun k e=>⟨aQ h.le (hr k e).1,fun o ho hk=>by
  have h1:k < w.heap.size:=by
   rcases cZ.1 ho with ho | ho
   ·exact o.here w (h.P o (qj _ ho)) k hk
   ·rcases cZ.1 ho with ho | ho
    ·simp only [YB,bn,iH,rP] at ho
     rcases ho with rfl | rfl | rfl | rfl
     ·have e2:k=b19:=hk
      have:=(Yx h).lt;omega
     ·have e2:k=b18:=hk
      have:=(Za h).lt;omega
     ·exact(sl 3 1 bv bl.length (kC bl)).here w (ZV h) k hk
     ·have e2:k=b16:=hk
      have:=(YE h).lt;omega
    ·exact o.here w (h.P o (uV _ (uV _ ho))) k hk
  have:=(hr k e).1
  omega⟩)
theorem YV {P:Nat→Obj→Prop}{W:World}(p:Addr)(v:Value)(hp:∀o,P p.block o):Yy P W (W.setCell p v) :=
 ⟨by simp [World.setCell],fun k cs t fr hk hn=>(aF _ _ _ _ (fun e=>by rw [e] at hn;exact hn (hp _))).trans hk⟩
end
def VWk:List Value→Value→Prop:=fun _ v=>∃m:Nat,v=.func (.func 73) #[] #[.pointer (some ⟨m,0,none⟩),.pointer (some ⟨m+1,0,none⟩)]
def FWk (R:Nat)(hd:Int)(B:Nat):List Value→World→Prop
 | [v],w'=>∀m:Nat,v=.func (.func 73) #[] #[.pointer (some ⟨m,0,none⟩),.pointer (some ⟨m+1,0,none⟩)]→B≤m∧dD w' m [.pointer (some ⟨R,0,none⟩)] 29∧dD w' (m+1) [.int .i64 hd] 3
 | _,_=>True
theorem Zt {R B:Nat}{hd:Int}(k:List Value)(w1 w2:World)(h:FWk R hd B k w1)(hb:Below w1.heap.size w1 w2):FWk R hd B k w2:=by
 match k,h with
 | [],_=>trivial
 | [v],h =>
  intro m e
  obtain⟨h1,h2,h3⟩:=h m e
  exact⟨h1,h2.below hb,h3.below hb⟩
 | _ :: _ :: _,_=>trivial
theorem YK {P:Program}{n0 id lr:Nat}{Q':Exit→Act→World→Prop}{a:Act}{w:World}{l:List Oper}(m:Nat)(hm:P.follows .mixedOrders=true)(hB:RZ.xh .any l.toArray m (l.length - m)=true)(hnd:l.all RZ.G7=true)
  (h:RZ.qi P l.toArray ⟨jc w,fun k X w'=>jc w w',fun _ _=>True,fun _ _=>undef,fun _=>[],fun _=>0⟩ (fun k X a'=>∀w',jc w w'→wpListIn (Fence.wide.inRound lr) n0 P l.toArray Q' (l.drop m) a' w') 0 [] [] (l.take m) a):(Code.region id l.toArray true).wpIn (Fence.wide.inRound lr) n0 P Q' a w :=
 RZ.TV ⟨jc w,fun k X w'=>jc w w',fun _ _=>True,fun _ _=>undef,fun _=>[],fun _=>0⟩ m (fun _=>trivial) rfl (fun f args w R h=>RZ.JI f args w R h) hm hB hnd (fun k X w' h=>h) (fun k X w' cs ty h=>aV h ((ak _ _).alloc (au _) _)) (fun k X Y w' hp h=>h) ((ak _ _).drew) h
theorem Zy (a b:List UInt8):(⟨a.toArray⟩:ByteArray) ++ ⟨b.toArray⟩=⟨(a ++ b).toArray⟩:=by
 apply XA
 simp
def IxO (S:Tr)(l:List Nat)(c:Code)(ys:List (Ym S))(W:World):Prop:=¬(ys.map (fun y=>y.1) <+: l)
theorem ZR (S:Tr)(l:List Nat)(B:Nat)(c:Code):OwnFrom B (IxO S l c):=fun _ _ _ _ hs _ _=>hs
theorem ZO {W:World}{b D:Nat}{o:Obj}{v:Value}(h:W.cell? ⟨b,0,none⟩=some v)(hne:b≠D):(W.putObj D o).cell? ⟨b,0,none⟩=some v:=by
 have e:(W.putObj D o).heap[b]? = W.heap[b]?:=kV hne
 unfold World.cell? at h ⊢
 simp only [e]
 exact h
theorem YH {B b6 D:Nat}{w0 wz:World}(k6:dD wz b6 [.bool false] 4)(hb:Below B w0 wz)(hB:B≤b6)(hD:B≤D)(hK:wz.heap[D]? = some (.deferred (some [])))(v:Bool):(wz.setCell ⟨b6,0,none⟩ (.bool v)).heap[D]? = some (.deferred (some [])) ∧
  ((wz.setCell ⟨b6,0,none⟩ (.bool v)).putObj D (.deferred none)).cell? ⟨b6,0,none⟩=some (.bool v)∧Below B w0 ((wz.setCell ⟨b6,0,none⟩ (.bool v)).putObj D (.deferred none)):=by
 have hne:b6≠D:=fun e=>by
  have h1:wz.heap[b6]? = _:=k6
  rw [e,hK] at h1
  cases h1
 have h2:(wz.setCell ⟨b6,0,none⟩ (.bool v)).heap[D]? = some (.deferred (some [])):=(aF _ _ _ _ (fun e=>hne e.symm)).trans hK
 obtain⟨r1,r2⟩:=YG k6 hb hB v
 exact⟨h2,ZO r1 hne,Gm _ r2 hD (hlt h2)⟩
end Go.Proofs.YtfelmdkeaacfeaaGreatDoor.W
end
