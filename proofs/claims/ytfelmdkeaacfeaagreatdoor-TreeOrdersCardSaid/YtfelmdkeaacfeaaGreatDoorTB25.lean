/- Texts joined: ValP WkI WkS RegZ. -/
import Derived.Test.YtfelmdkeaacfeaaGreatDoorTB1
import Derived.Test.YtfelmdkeaacfeaaGreatDoorTB24
import Derived.Test.YtfelmdkeaacfeaaGreatDoorTB16
import Derived.Test.YtfelmdkeaacfeaaGreatDoorTB3
import Derived.Test.YtfelmdkeaacfeaaGreatDoorTB23
set_option maxRecDepth 100000
set_option maxHeartbeats 40000000
set_option linter.unusedVariables false
set_option linter.unusedSimpArgs false
section
namespace Go.Proofs.YtfelmdkeaacfeaaGreatDoor.W
open Go.RowKit
attribute [local go_sem] Oper.semAt_some
def qY (S:Tr)(K:Nat→List Nat)(i:Nat):Nat:=if(jh S i).parent=0 then wZ K 127 i else 0
def cnt (S:Tr)(K:Nat→List Nat)(pre:List (SV S)):Nat:=(pre.map fun x=>qY S K x.1).sum
theorem pW {W W':World}(h:Below W.heap.size W W'):KeepsOthers W W':=⟨h.size,fun k o hk _=>(h.block k (aX.1 hk).1).trans hk⟩
theorem xE {α : Type}{P:Program}{n:Nat}{g:Operand}{ps:Array Tmp}{assign body:Code}{Q:Exit→Act→World→Prop}{a:Act}{w:World}(upd:α→Act→Act)
  (h1:1≤n){gf:Nat}{lb:Array Value}(hg:a.eval g=.func (.func gf) #[] lb)(eg:∀args w,(callFunc gf args).run P w=.ok (.enter gf args) w)
  {encs:α→Array Value}{Kp:World→World→Prop}{S Sp:List α→Prop}{N:Nat}(hseq:SeqStopsK Fence.wide (n - 1) P gf lb encs Kp S Sp N w)
  (hKt:∀{A B C:World},Kp A B→Kp B C→Kp A C)(hKb:∀(W:World) (l:Nat) (o o':Obj),w.heap.size≤l→W.heap[l]? = some o→o.isCells=false→o.isWalk=false→Kp W (W.putObj l o'))(hps:∀x,(encs x).size=ps.size)
  (I:List α→World→Prop)(Ix:Code→List α→World→Prop)(hI:OwnFrom w.heap.size I)(hIx:∀c,OwnFrom w.heap.size (Ix c))(h0:I [] w)
  (hassign:∀(l:Nat) (x:α) (W:World) (K:Act→World→Prop),K (upd x a) W →
   assign.wpIn (Fence.wide.inRound l) (n - 1 - 1) P (Exit.then K (fun _ _ _=>False)) { tmps:=(ps.zip (encs x)).foldl (fun t (p,v)=>t.setIfInBounds p v) a.tmps,defers:=[] } W)
  (hbody:∀(l:Nat) (pre:List α) (x:α) (W:World),I pre W→pre.length < N→body.wpIn (Fence.wide.inRound l) (n - 1 - 1) P (ownPostK Kp I Ix (pre ++ [x]) W) (upd x a) W)
  (hdone:∀(D:Nat) (xs:List α) (W:World),w.heap.size≤D→S xs→I xs W→W.heap[D]? = some (.deferred (some []))→Q .normal { a with defers:={ target:=.collected D,args:=#[] } :: a.defers } W)
  (hstop:∀(D:Nat) (c:Code) (pre:List α) (W:World),w.heap.size≤D→Sp pre→Ix c pre W→W.heap[D]? = some (.deferred (some []))→c.wpIn Fence.wide n P Q { a with defers:={ target:=.collected D,args:=#[] } :: a.defers } W) :
  (Code.rangeFunc g ps assign body).wpIn Fence.wide n P Q a w :=
 wpIn_rangeFunc_ownF rfl h1 hg trivial eg hseq hKt hKb (ak _ _) hps I Ix hI hIx h0 (fun x=>upd x a) hassign hbody hdone hstop
theorem Io {B gn:Nat}{cs:List Value}{t:TypeId}{X Y:World}{row:Option Nat}(h:dD X gn cs t)(hg:X.grownBy Y row)(hr:∀r,row=some r→B≤r∧∃o:Obj,X.heap[r]? = some o∧o.isCells=false):dD Y gn cs t :=
 h.kept (hg.block gn h.lt (fun e=>by
  obtain⟨_,o,ho,hc⟩:=hr gn e.symm
  have:X.heap[gn]? = _:=h
  rw [this] at ho
  cases ho
  cases hc))
theorem DL {n:Nat}{P:Program}{fn:Func}{tmps:Array Value}{R:Ending→World→Prop}{D1:Nat}{W:World}(h1:W.heap[D1]? = some (.deferred (some [])))
  (hL:LeavesIn Fence.wide n P fn tmps R [] .returning (W.putObj D1 (.deferred none))) :
  bodyPostM Fence.wide n P fn R .ret { tmps:=tmps,defers:=[{ target:=.collected D1,args:=#[] }] } W :=
 ⟨by simp,.inl ⟨D1,_,rfl,run_takeDeferred h1,hL⟩⟩
theorem Gm {B D:Nat}{w W:World}(o:Obj)(h:Below B w W)(hB:B≤D)(hD:D < W.heap.size):Below B w (W.putObj D o) :=
 h.grown (grownBy_putObj' W D o) (by omega) (fun k e=>by cases e;exact hB)
def J3 (b:Nat)(W:World):Option Nat:=(W.cell? ⟨b,0,none⟩).bind Value.ownBlock
structure EZ (b:Nat) (W W':World):Prop where
 size:W.heap.size≤W'.heap.size
 kept:∀(k:Nat) (cs:Array Value) (t:TypeId) (fr:Nat×Nat),W.heap[k]? = some (Obj.cells cs t fr)→k≠b→J3 b W≠some k→W'.heap[k]? = some (Obj.cells cs t fr)
 sl:J3 b W'=J3 b W∨∀k,J3 b W'=some k→W.heap.size≤k∧k < W'.heap.size
theorem hlt {W:World}{k:Nat}{o:Obj}(h:W.heap[k]? = some o):k < W.heap.size:=(aX.1 h).1
theorem EZ.trans {b:Nat}{A C D:World}(h:EZ b A C)(k:EZ b C D):EZ b A D:=by
 refine⟨aQ h.size k.size,fun i cs t fr hi h1 h2=>k.kept i cs t fr (h.kept i cs t fr hi h1 h2) h1 (fun e=>?_),?_⟩
 ·rcases h.sl with e2 | e2
  ·exact h2 (e2 ▸ e)
  ·have:=(e2 i e).1;have:=hlt hi;omega
 ·rcases k.sl with e | e
  ·rcases h.sl with e2 | e2
   ·exact .inl (e.trans e2)
   ·exact .inr (fun i hi=>by have h1:=e2 i (e ▸ hi);have:=k.size;exact⟨h1.1,by omega⟩)
  ·exact .inr (fun i hi=>by have:=e i hi;have:=h.size;omega)
structure UM (b:Nat) (w0 W:World):Prop where
 size:w0.heap.size≤W.heap.size
 Vz:∀(k:Nat) (cs:Array Value) (t:TypeId) (fr:Nat×Nat),w0.heap[k]? = some (Obj.cells cs t fr)→W.heap[k]? = some (Obj.cells cs t fr)
 lo:∀k,J3 b W=some k→w0.heap.size≤k∧k < W.heap.size
 bx:w0.heap.size≤b∧b < W.heap.size
theorem UM.kp {b:Nat}{w0 W W':World}(h:UM b w0 W)(k:EZ b W W'):UM b w0 W':=by
 refine⟨aQ h.size k.size,fun i cs t fr hi=>k.kept i cs t fr (h.Vz i cs t fr hi) (fun e=>by have:=hlt hi;have:=h.bx;omega) (fun e=>by have:=(h.lo i e).1;have:=hlt hi;omega),fun i hi=>?_,h.bx.1,aO h.bx.2 k.size⟩
 rcases k.sl with e | e
 ·have:=h.lo i (e ▸ hi);have:=k.size;omega
 ·have:=e i hi;have:=h.size;omega
theorem FB {b:Nat}{W W':World}(hb:b < W.heap.size)(k:Below W.heap.size W W'):J3 b W'=J3 b W:=by
 unfold J3
 rw [k.cell (p:=⟨b,0,none⟩) hb]
theorem EZ.below {b:Nat}{W W':World}(hb:b < W.heap.size)(k:Below W.heap.size W W'):EZ b W W' :=
 ⟨k.size,fun i cs t fr hi _ _=>(k.block i (hlt hi)).trans hi,.inl (FB hb k)⟩
theorem fZ.VU {b B R:Nat}{S:Tr}{sv fv:Value}{w W:World}(h:fZ B R S sv fv w)(k:UM b w W):fZ B R S sv fv W:=by
 have keep:∀{e sz n:Nat} {v:Value} {xs:List Value},w.ownsRow B e sz v n xs→W.ownsRow B e sz v n xs:=fun h=>gW h (fun g hg=>by
  obtain⟨cur,hc⟩:=gJ h hg
  exact(k.Vz g _ _ _ hc).trans hc.symm)
 refine⟨h.blk.kept ((k.Vz R _ _ _ h.blk).trans (show _=_ from h.blk).symm),keep h.slots,keep h.free,fun i n hi=>?_,h.base,h.few⟩
 obtain⟨a,cp,e,hx⟩:=h.attrs i n hi
 exact⟨a,cp,e,hx.imp id fun⟨g',cur',e1,e2,e3,e4⟩=>⟨g',cur',e1,e2,(k.Vz g' _ _ _ e3),e4⟩⟩
theorem NU (k:Nat):Fence.wide.room k:=fun d h=>by cases h
theorem Fb {m:Nat}(m':Nat){P:Program}{l:Nat}{args:Array Value}{W:World}{R:Ending→World→Prop}(h:YieldAt Fence.wide m P l args W R):YieldAt Fence.wide m' P l args W R:=by
 obtain⟨fn,tmps,assign,body,hy,h1,h2⟩:=h
 exact⟨fn,tmps,assign,body,hy,h1,fun c cs _=>h2 c cs (NU _)⟩
def VL (S:Tr)(b:Nat)(K:Nat→List Nat)(f i:Nat)(w0 W:World)(pre:List Nat)(J:List Nat→World→Prop)(v:Value)(jv:Value)(wr:World):Prop :=
 ∃(j B2:Nat),j≤(K i).length∧jv=.int .i64 (j:Int)∧J (pre ++ [i] ++ ((K i).take j).flatMap (dR K f)) wr∧EZ b W wr∧UM b w0 wr∧wr.ownsRow B2 3 1 v (K i).length (hC ((K i).map S.hd))∧∀k,v.ownBlock=some k→k≠b∧J3 b wr≠some k
def VM (R l b N:Nat)(S:Tr)(K:Nat→List Nat)(w0:World)(J Jx:List Nat→World→Prop)(f i:Nat):Prop :=
 ∀m pre W,UM b w0 W→J pre W→pre.length+(dR K f i).length≤N →
  CallsIn Fence.wide m Tryz.prog 74 #[.pointer (some ⟨R,0,none⟩),.int .i64 (S.hd i),.func (.yield l) #[] #[]] W fun e W' =>
   (e=.returned (.bool true)∧J (pre ++ dR K f i) W'∧EZ b W W')∨(e=.returned (.bool false)∧∃q,Jx q W')
theorem Dn {B R g cap N l b:Nat}{S:Tr}{fv:Value}{w0:World}{K:Nat→List Nat}{d:Nat→Nat}(h0:fZ B R S (.slice (some ⟨g,0,none⟩) S.slots.length cap) fv w0)(hL:Lk S K d){J Jx:List Nat→World→Prop}
  (hJ:∀s W W',J s W→Below W.heap.size W W'→J s W')
  (hY:∀m pre x W,J pre W→pre.length < N→YieldAt Fence.wide m Tryz.prog l #[.int .i64 (S.hd x)] W fun e W'=>(e=.returned (.bool true)∧J (pre ++ [x]) W'∧EZ b W W')∨(e=.returned (.bool false)∧Jx (pre ++ [x]) W'))
  (f i:Nat)(n:Nd)(hi:S.at i=some n)(hw:dR K f i=i :: (K i).flatMap (dR K (f - 1)))(ih:∀k∈K i,VM R l b N S K w0 J Jx (f - 1) k):VM R l b N S K w0 J Jx f i:=by
 intro m pre W hI hj hN
 rw [hw] at hN ⊢
 obtain⟨fn,tmps,assign,body,hy,hR⟩:=hY (m - 1) pre i W hj (by simp at hN;omega)
 have HIH:=ae ih
 have HI:=ae hI
 have HJ:=ae hJ
 have hkl:=lX hL i
 clear ih hY hI hj hJ hw
 refine XL Tryz.func74 rfl trivial ?_ rfl
 simp only [Tryz.ntmps74,gZ,List.length_cons,List.length_nil,Nat.reduceAdd,Nat.reduceSub,ji,Array.replicate_zero,jS,jE,List.nil_append,List.cons_append]
 gi_wp2
 refine⟨fun h=>(by cases h),?_⟩
 refine hR.mono ?_
 rintro e W1 (⟨rfl,hj1,hk1⟩ | ⟨rfl,hx1⟩)
 ·have HI1:=ae (HI.out.kp hk1)
  have HK:=ae (pV (h0.VU HI1.out) hL i n hi)
  have HJ1:=ae hj1
  have HK1:=ae hk1
  clear hy hR hj1 hk1
  gi_wp2
  refine⟨trivial,fun h=>(by cases h),(jP.2 HK.out).mono ?_⟩
  rintro e W2 ⟨v,rfl,ho,hb2⟩
  obtain⟨va,vc,rfl⟩:=bP ho
  have hb:=HI1.out.bx.2
  have k2:=EZ.below hb hb2
  have HO:=ae ho
  have hI2:=HI1.out.kp k2
  have HS:=ae (show VL S b K (f - 1) i w0 W pre J (.slice va (K i).length vc) (.int .i64 0) W2 from⟨0,W1.heap.size,by omega,rfl,by simpa using HJ.out _ _ _ HJ1.out hb2,HK1.out.trans k2,hI2,ho,fun k hk=>by
   have h1:=(ho.lt k hk).1
   refine⟨by omega,fun e=>?_⟩
   rw [FB hb hb2] at e
   have:=(HI1.out.lo k e).2
   omega⟩)
  clear ho hb2 k2 hI2 HK
  gi_wp2
  gi_loopw [17] (fun jv wr=>VL S b K (f - 1) i w0 W pre J (.slice va (K i).length vc) jv wr) (fun jv _=>(K i).length - (intOf jv).toNat)
  case atStart=>exact HS.out
  case round =>
   obtain⟨j,B2,hjl,rfl,hjj,hkk,hii,hoo,hne⟩:=hrel
   have HOo:=ae hoo
   have HJj:=ae hjj
   have HKk:=ae hkk
   have HIi:=ae hii
   have HNe:=ae hne
   clear hjj hkk hii hne
   by_cases hlt:j < (K i).length
   ·obtain⟨k,hk⟩:∃k,(K i)[j]? = some k:=⟨_,ay hlt⟩
    obtain⟨gv,cp2,hv,hc⟩:=pO hoo (x:=S.hd k) (by rw [bI,hk];rfl)
    cases hv
    have hcg:=iG wr ⟨gv,j,none⟩ hc
    have HC:=ae (HIH.out k (ah hk) (m - 1) (pre ++ [i] ++ ((K i).take j).flatMap (dR K (f - 1))) wr HIi.out HJj.out (by
     have e:=iU hk (dR K (f - 1))
     have h2:(((K i).take (j+1)).flatMap (dR K (f - 1))).length≤((K i).flatMap (dR K (f - 1))).length:=by
      conv=>rhs;rw [← bG (j+1) (K i),jT]
      simp
     rw [e] at h2
     simp only [aA,List.length_cons,List.length_nil] at h2 hN ⊢
     omega))
    have HE:=ae (iU hk (dR K (f - 1)))
    clear hoo hk
    gi_wp2
    refine⟨trivial,fun h=>(by cases h),HC.out.mono ?_⟩
    rintro e W3 (⟨rfl,hj3,hk3⟩ | ⟨rfl,q,hx3⟩)
    ·have HS3:=ae (show VL S b K (f - 1) i w0 W pre J (.slice (some ⟨gv,0,none⟩) (K i).length vc) (.int .i64 ((j+1:Nat):Int)) W3 from⟨j+1,B2,by omega,rfl,by rw [HE.out];rw [bu] at hj3;exact hj3,HKk.out.trans hk3,HIi.out.kp hk3,gW HOo.out (fun g hg=>by
      obtain⟨cur,hcur⟩:=gJ HOo.out hg
      exact(hk3.kept g _ _ _ hcur (HNe.out g hg).1 (HNe.out g hg).2).trans hcur.symm),fun g hg=>⟨(HNe.out g hg).1,fun e=>by
       rcases hk3.sl with e2 | e2
       ·exact(HNe.out g hg).2 (e2 ▸ e)
       ·have:=(e2 g e).1;have:=(HOo.out.lt g hg).2;omega⟩⟩)
     clear hj3 hk3
     gi_wp2
     go_roundw
     case rel=>exact HS3.out
     case measure=>simp [intOf];omega
    ·have HX:=ae hx3
     clear hx3
     gi_wp2
     go_ret
     exact .inr ⟨rfl,_,HX.out⟩
   ·obtain rfl:j=(K i).length:=by omega
    rw [dE] at HJj
    clear hoo
    gi_wp2
    go_ret
    refine .inl ⟨rfl,?_,HKk.out⟩
    have:=HJj.out
    rw [bu] at this
    exact this
 ·have HX:=ae hx1
  clear hy hR hx1
  gi_wp2
  go_ret
  exact .inr ⟨rfl,_,HX.out⟩
theorem O6 {B R g cap N l b:Nat}{S:Tr}{fv:Value}{w0:World}{K:Nat→List Nat}{d:Nat→Nat}(h0:fZ B R S (.slice (some ⟨g,0,none⟩) S.slots.length cap) fv w0)(hL:Lk S K d){J Jx:List Nat→World→Prop}
  (hJ:∀s W W',J s W→Below W.heap.size W W'→J s W')
  (hY:∀m pre x W,J pre W→pre.length < N→YieldAt Fence.wide m Tryz.prog l #[.int .i64 (S.hd x)] W fun e W'=>(e=.returned (.bool true)∧J (pre ++ [x]) W'∧EZ b W W')∨(e=.returned (.bool false)∧Jx (pre ++ [x]) W')) :
  ∀(f i:Nat) (n:Nd),S.at i=some n→128 - d i=f→VM R l b N S K w0 J Jx f i:=by
 intro f
 induction f with
 | zero =>
  intro i n hi hf
  have hK:K i=[]:=by
   cases e:K i with
   | nil=>rfl
   | cons k t =>
    have h1:=hL.qc i k (by rw [e];simp)
    have h2:=hL.low k
    omega
  exact Dn h0 hL hJ hY 0 i n hi (by rw [hK];rfl) (fun k hk=>by rw [hK] at hk;cases hk)
 | succ f ih =>
  intro i n hi hf
  refine Dn h0 hL hJ hY (f+1) i n hi rfl (fun k hk=>?_)
  obtain⟨j,hj⟩:=aI.1 hk
  obtain⟨nk,hnk⟩:=hL.some hj
  have hdk:=hL.qc i k hk
  have hlow:=hL.low k
  exact ih k nk hnk (by omega)
theorem walk_any (R:Nat)(h:Int)(w:World) :
  Calls Tryz.prog 26 #[.pointer (some ⟨R,0,none⟩),.int .i64 h] w fun e w'=>e=.returned (.func (.func 73) #[] #[.pointer (some ⟨w.heap.size,0,none⟩),.pointer (some ⟨w.heap.size+1,0,none⟩)]) ∧
   w'=(w.alloc (.cells #[.pointer (some ⟨R,0,none⟩)] 29)).alloc (.cells #[.int .i64 h] 3):=by
 go_enter Tryz.func26,Tryz.ntmps26
 go_wp2
 go_ret
 exact⟨rfl,rfl⟩
theorem Dq {B R g cap b i Bs Bh n:Nat}{S:Tr}{fv:Value}{w0 w:World}{K:Nat→List Nat}{d:Nat→Nat}(h0:fZ B R S (.slice (some ⟨g,0,none⟩) S.slots.length cap) fv w0)(hL:Lk S K d)(nd:Nd)(hi:S.at i=some nd)
  (hI:UM b w0 w)(hBs:dD w Bs [.pointer (some ⟨R,0,none⟩)] 29)(hBh:dD w Bh [.int .i64 (S.hd i)] 3) :
  SeqStopsK Fence.wide n Tryz.prog 73 #[.pointer (some ⟨Bs,0,none⟩),.pointer (some ⟨Bh,0,none⟩)] (fun x:Nat=>#[Value.int .i64 (S.hd x)]) (EZ b) (fun ys=>ys=dR K (128 - d i) i) (fun _=>True) (dR K (128 - d i) i).length w:=by
 intro l J Jx W hW hJ hJx hY hj
 have hbl:=hI.bx.2
 have hIW:=hI.kp (EZ.below hbl hW)
 have hix:S.ix (S.hd i)=some i:=fV hL hi
 have HAt:=ae (bV (h0.VU hIW) (S.hd i) (hd_ok hL hi).1 hix)
 have c0:=(hBs.below hW).cell 0
 have c1:=(hBh.below hW).cell 0
 simp only [List.getElem?_cons_zero] at c0 c1
 have hlW:b < W.heap.size:=hIW.bx.2
 have HW:=ae (fun W1 (hb:Below W.heap.size W W1)=>O6 (N:=(dR K (128 - d i) i).length) (l:=l) (b:=b) (J:=J) (Jx:=Jx) h0 hL (fun s W W' hs hb=>hJ s W W' none hs (kU hb) (fun r e=>by cases e)) (fun m pre x W hp hl=>Fb m (hY pre x W hp hl)) (128 - d i) i nd hi rfl (n - 1) [] W1 (hIW.kp (EZ.below hlW hb)) (hJ _ _ _ none hj (kU hb) (fun r e=>by cases e)) (by simp))
 have HBs:=ae (hBs.below hW)
 have HBh:=ae (hBh.below hW)
 clear hY hj hJ hJx hI hIW hBs hBh
 refine XL Tryz.func73 rfl trivial ?_ rfl
 simp only [Tryz.ntmps73,gZ,List.length_cons,List.length_nil,Nat.reduceAdd,Nat.reduceSub,ji,Array.replicate_zero,jS,jE,List.nil_append,List.cons_append]
 gi_wp2
 refine⟨trivial,fun h=>(by cases h),(jP.2 HAt.out).mono ?_⟩
 rintro e W1 ⟨rfl,hb1⟩
 have HW1:=ae (HW.out W1 hb1)
 have d0:=(HBs.out.below hb1).cell 0
 have d1:=(HBh.out.below hb1).cell 0
 simp only [List.getElem?_cons_zero] at d0 d1
 clear hb1 c0 c1 HW
 gi_wp2
 refine⟨trivial,fun h=>(by cases h),HW1.out.mono ?_⟩
 rintro e W2 (⟨rfl,hj2,hk2⟩ | ⟨rfl,q,hx2⟩)
 ·have HJ2:=ae hj2
  clear hj2 hk2
  gi_wp2
  go_end0
  exact⟨⟨_,rfl⟩,.inl ⟨_,rfl,by simpa using HJ2.out⟩⟩
 ·have HX:=ae hx2
  clear hx2
  gi_wp2
  go_end0
  exact⟨⟨_,rfl⟩,.inr ⟨q,trivial,HX.out⟩⟩
end Go.Proofs.YtfelmdkeaacfeaaGreatDoor.W
end
section
namespace Go.Proofs.YtfelmdkeaacfeaaGreatDoor.W.RZ
open Go
open Go.Proofs.YtfelmdkeaacfeaaGreatDoor.W
def Qg (o:Oper):Bool:=match o.op with | .call c=>(match c.callee with | .builtin .append=>true | _=>false) | .buildSlice t n _=>n == 0 || t == 82 || t == 31 | .store _ _ _=>true | _=>false
def jW (o:Oper):Bool:=gG o || Qg o
theorem Lp {o:Oper}(h:jW o=false):gG o=false:=by unfold jW at h;rw [Yj] at h;exact h.1
def kindOf (o:Oper):Nat:=if jW o then 1 else match o.op with | .alloc _=>2 | .box _ _=>2 | .buildSlice _ _ _=>2 | _=>0
theorem nV {o:Oper}(h:jW o=false):kindOf o≠1:=by
 unfold kindOf
 rw [h]
 simp only [iV,iJ]
 split <;> simp
theorem lh (o:Oper):kindOf o=0∨kindOf o=1∨kindOf o=2:=by
 unfold kindOf
 split
 ·exact .inr (.inl rfl)
 ·split <;> simp
def mZ (ops:Array Oper)(j:Nat):Bool:=match ops[j]? with | some o=>jW o | none=>false
def heavy (o:Oper):Bool:=jW o || kindOf o == 2
def Ic (ops:Array Oper)(j:Nat):Bool:=match ops[j]? with | some o=>heavy o | none=>false
section
variable {P : Program} {ops : Array Oper} {md : Region.Mode} {m : Nat}
def zB (md:Region.Mode)(ops:Array Oper)(m t:Nat):Nat→Nat→Array Bool→Bool
 | 0,_,listed=>(Region.ready md ops listed).all (fun j=>decide (m≤j)) && tail4 md ops t m listed
 | n+1,k,listed=>(Region.ready md ops listed).contains k && Region.free md ops listed k && zB md ops m t n (k+1) (listed.setIfInBounds k true)
def sD (md:Region.Mode)(ops:Array Oper)(m i:Nat)(B:List Nat):Bool :=
 (B.all fun j=>decide (i < j) && match ops[j]? with | some o=>o.after.any fun e=>Region.binds md e && (e.on == i || B.contains e.on) | none=>false) &&
 ((List.range ops.size).all fun j=>!(Ic ops i && mZ ops j && decide (i < j)) || B.contains j) && ((List.range ops.size).all fun j=>!decide (m≤j) || B.contains j)
def xh (md:Region.Mode)(ops:Array Oper)(m t:Nat):Bool :=
 Region.noSelect ops && zB md ops m t m 0 (Array.replicate ops.size false) && ((List.range m).all fun i=>sD md ops m i (pR md ops i)) && decide (m+t=ops.size)
theorem rM {i:Nat}{B:List Nat}(h:sD md ops m i B=true) :
  (∀j,B.contains j=true→i < j∧∃oj,ops[j]? = some oj∧∃e∈oj.after,Region.binds md e=true∧(e.on=i∨B.contains e.on=true)) ∧
  (Ic ops i=true→∀j oj,ops[j]? = some oj→jW oj=true→i < j→B.contains j=true)∧(∀j oj,ops[j]? = some oj→m≤j→B.contains j=true):=by
 unfold sD at h
 rw [aH,aH] at h
 obtain⟨⟨h1,h2⟩,h3⟩:=h
 refine⟨fun j hj=>?_,fun hci j oj hoj hc hij=>?_,fun j oj hoj hmj=>?_⟩
 ·rw [dX] at h1
  have:=h1 j (by simpa using hj)
  rw [aH] at this
  obtain⟨g1,g2⟩:=this
  refine⟨by simpa using g1,?_⟩
  cases ho:ops[j]? with
  | none=>rw [ho] at g2;cases g2
  | some oj =>
   rw [ho] at g2
   obtain⟨e,he,hb⟩:=XB.1 g2
   simp only [aH,xQ,WT] at hb
   exact⟨oj,rfl,e,he,hb.1,hb.2⟩
 ·rw [dX] at h2
  have:=h2 j (iw.2 (aX.1 hoj).1)
  have hca:mZ ops j=true:=by unfold mZ;rw [hoj];exact hc
  simp only [hca,hci,hij,Xw,Ye,WX,iE] at this
  exact this
 ·rw [dX] at h3
  have:=h3 j (iw.2 (aX.1 hoj).1)
  simp only [hmj,Xw,WX,iE] at this
  exact this
end
structure Pl where
 S:World→Prop
 C:List Value→List Ob→World→Prop
 V:List Value→Value→Prop
 made:Nat→Nat→Value
 cs:Nat→List Value
 ty:Nat→TypeId
section
variable (P : Program) (ops : Array Oper) (L : Pl)
def rE (o:Oper)(a:Act)(mk:Nat→Value)(cs:List Value)(t:TypeId):Prop:=∀w,(execOp a.eval o).run P w=.ok (.value (mk w.heap.size)) (w.alloc (.cells cs.toArray t))
def qg (o:Oper)(a:Act)(k:List Value)(X0:List Ob):Prop :=
 (∃v,L.V k v)∧∀X w,(∀b∈X0,b∈X)→L.C k X w→(∃f args,(execOp a.eval o).run P w=.ok (.enter f args) w∧Calls P f args w (fun e w'=>∃v,e=.returned v∧L.V k v∧L.C (v :: k) X w'))∨(∃v w',(execOp a.eval o).run P w=.ok (.value v) w'∧L.V k v∧L.C (v :: k) X w')∨(∃w',(execOp a.eval o).run P w=.ok .skip w'∧L.V k undef∧L.C (undef :: k) X w')
def sV (o:Oper)(i:Nat)(k:List Value)(X0:List Ob)(a:Act):Prop:=Region.wanted o (yielded ops a.tmps)=true →
 (kindOf o=0→∃v,jo P L.S o a v)∧(kindOf o=1→qg P L o a k X0)∧(kindOf o=2→rE P o a (L.made i) (L.cs i) (L.ty i))
def nH (o:Oper)(i:Nat)(k:List Value)(a:Act)(k':List Value)(D:List Ob)(v:Value):Prop :=
 (Region.wanted o (yielded ops a.tmps)=false∧k'=k∧D=[]∧v=undef) ∨
 (Region.wanted o (yielded ops a.tmps)=true∧((kindOf o=0∧jo P L.S o a v∧k'=k∧D=[])∨(kindOf o=1∧L.V k v∧k'=v :: k∧D=[]) ∨
  (kindOf o=2∧k'=k∧∃g,v=L.made i g∧D=[bk g (L.cs i) (L.ty i)])))
def rO (o:Oper)(i:Nat)(k:List Value)(X:List Ob)(a:Act)(K:List Value→List Ob→Act→Prop):Prop :=
 sV P ops L o i k X a∧∀k' D v,nH P ops L o i k a k' D v→K k' (D ++ X) (a.put o.dst v)
def qi (Q:List Value→List Ob→Act→Prop):Nat→List Value→List Ob→List Oper→Act→Prop
 | _,k,X,[],a=>Q k X a
 | i,k,X,o :: rest,a=>rO P ops L o i k X a (fun k' X' a'=>qi Q (i+1) k' X' rest a')
def oO (md:Region.Mode)(m:Nat)(Q:Array Bool→List Value→List Ob→Act→Prop):Nat→Array Bool→List Value→List Ob→Act→Prop
 | 0,listed,k,X,a=>(∀j∈Region.ready md ops listed,m≤j)∧Q listed k X a
 | n+1,listed,k,X,a=>Region.ready md ops listed≠[]∧∀i∈Region.ready md ops listed,i < m∧∀o,ops[i]? = some o→rO P ops L o i k X a (fun k' X' a'=>oO md m Q n (listed.setIfInBounds i true) k' X' a')
end
section
variable {P : Program} {ops : Array Oper} {L : Pl} {md : Region.Mode} {m : Nat} {Q : Array Bool → List Value → List Ob → Act → Prop}
theorem sV.same {o:Oper}{i:Nat}{k:List Value}{X0:List Ob}{a a':Act}(h:sV P ops L o i k X0 a)(he:execOp a'.eval o=execOp a.eval o)(hw:Region.wanted o (yielded ops a'.tmps)=Region.wanted o (yielded ops a.tmps)):sV P ops L o i k X0 a':=by
 unfold sV jo qg rE at *
 rw [he,hw]
 exact h
theorem nH.same {o:Oper}{i:Nat}{k k':List Value}{D:List Ob}{v:Value}{a a':Act}(h:nH P ops L o i k a k' D v)(he:execOp a'.eval o=execOp a.eval o)(hw:Region.wanted o (yielded ops a'.tmps)=Region.wanted o (yielded ops a.tmps)):nH P ops L o i k a' k' D v:=by
 unfold nH jo at *
 rw [he,hw]
 exact h
theorem sV.mono {o:Oper}{i:Nat}{k:List Value}{X0 X1:List Ob}{a:Act}(h:sV P ops L o i k X0 a)(hm:∀b∈X0,b∈X1):sV P ops L o i k X1 a:=fun hw =>
 ⟨(h hw).1,fun e=>⟨((h hw).2.1 e).1,fun X w hX hC=>((h hw).2.1 e).2 X w (fun b hb=>hX b (hm b hb)) hC⟩,(h hw).2.2⟩
theorem sV.stage {o:Oper}{i:Nat}{k:List Value}{X0:List Ob}{a:Act}(hc:jW o=false)(h:sV P ops L o i k X0 a)(j:List Value)(X1:List Ob):sV P ops L o i j X1 a:=fun hw =>
 ⟨(h hw).1,fun e=>absurd e (nV hc),(h hw).2.2⟩
theorem nH.stage {o:Oper}{i:Nat}{k k':List Value}{D:List Ob}{v:Value}{a:Act}(hc:jW o=false)(h:nH P ops L o i k a k' D v)(j:List Value):k'=k∧nH P ops L o i j a j D v:=by
 rcases h with ⟨h1,h2,h3⟩ | ⟨h1,⟨h2,h3,h4,h5⟩ | ⟨h2,_⟩ | ⟨h2,h3,h4⟩⟩
 ·exact⟨h2,.inl ⟨h1,rfl,h3⟩⟩
 ·exact⟨h4,.inr ⟨h1,.inl ⟨h2,h3,rfl,h5⟩⟩⟩
 ·exact absurd h2 (nV hc)
 ·exact⟨h3,.inr ⟨h1,.inr (.inr ⟨h2,rfl,h4⟩)⟩⟩
theorem sV.out {o:Oper}{i:Nat}{k:List Value}{X0:List Ob}{a:Act}(h:sV P ops L o i k X0 a):∃k' D v,nH P ops L o i k a k' D v:=by
 cases hw:Region.wanted o (yielded ops a.tmps) with
 | false=>exact⟨k,[],undef,.inl ⟨hw,rfl,rfl,rfl⟩⟩
 | true =>
  rcases lh o with e | e | e
  ·obtain⟨v,hv⟩:=(h hw).1 e
   exact⟨k,[],v,.inr ⟨hw,.inl ⟨e,hv,rfl,rfl⟩⟩⟩
  ·obtain⟨⟨v,hv⟩,_⟩:=(h hw).2.1 e
   exact⟨v :: k,[],v,.inr ⟨hw,.inr (.inl ⟨e,hv,rfl,rfl⟩)⟩⟩
  ·exact⟨k,_,_,.inr ⟨hw,.inr (.inr ⟨e,rfl,0,rfl,rfl⟩)⟩⟩
theorem nY (hP:∀listed k X Y a,X.Perm Y→Q listed k X a→Q listed k Y a):∀(n:Nat) (listed:Array Bool) (k:List Value) (X Y:List Ob) (a:Act),X.Perm Y→oO P ops L md m Q n listed k X a→oO P ops L md m Q n listed k Y a:=by
 intro n
 induction n with
 | zero=>intro listed k X Y a hp h;exact⟨h.1,hP _ _ _ _ _ hp h.2⟩
 | succ n ih =>
  intro listed k X Y a hp h
  refine⟨h.1,fun i hi=>⟨(h.2 i hi).1,fun o ho=>?_⟩⟩
  obtain⟨h1,h2⟩:=(h.2 i hi).2 o ho
  exact⟨h1.mono (fun b hb=>hp.mem_iff.1 hb),fun k' D v hO=>ih _ _ _ _ _ (Xg D hp) (h2 k' D v hO)⟩
theorem ng {t:Nat}{Q':Exit→Act→World→Prop}(hS:∀k X w,L.C k X w→L.S w)(hM:∀k X w cs ty,L.C k X w→L.C k (bk w.heap.size cs ty :: X) (w.alloc (.cells cs.toArray ty)))
  (hQ:∀listed k X a w,L.C k X w→Q listed k X a→wpAny P md ops Q' t listed a w) :
  ∀(n:Nat) (listed:Array Bool) (k:List Value) (X:List Ob) (a:Act) (w:World),L.C k X w→oO P ops L md m Q n listed k X a→wpAny P md ops Q' (n+t) listed a w:=by
 intro n
 induction n with
 | zero=>intro listed k X a w hw h;rw [aJ];exact hQ _ _ _ _ _ hw h.2
 | succ n ih =>
  intro listed k X a w hw h
  rw [show n+1+t=(n+t)+1 by omega]
  refine⟨fun e=>absurd e h.1,fun i hi=>?_⟩
  obtain⟨_,o,ho,_⟩:=jD.1 hi
  obtain⟨hok,hn⟩:=(h.2 i hi).2 o ho
  unfold wpOp
  simp only [ho]
  cases hwt:Region.wanted o (yielded ops a.tmps) with
  | false =>
   simp only [iV,iJ]
   exact ih _ _ _ _ _ hw (hn k [] undef (.inl ⟨hwt,rfl,rfl,rfl⟩))
  | true =>
   simp only [oW]
   left
   obtain⟨o1,o2,o3⟩:=hok hwt
   unfold Oper.wp
   rcases lh o with e | e | e
   ·obtain⟨v,hv⟩:=o1 e
    have hk:=hn k [] v (.inr ⟨hwt,.inl ⟨e,hv,rfl,rfl⟩⟩)
    rcases hv w (hS _ _ _ hw) with r | ⟨r,rfl⟩
    ·rw [r];exact ih _ _ _ _ _ hw hk
    ·rw [r];exact ih _ _ _ _ _ hw hk
   ·rcases(o2 e).2 X w (fun _ h=>h) hw with ⟨f,args,r,hc⟩ | ⟨v,w',r,hv,hw'⟩ | ⟨w',r,hv,hw'⟩
    ·rw [r]
     refine Yi hc ?_
     rintro e2 w' ⟨v,rfl,hv,hw'⟩
     exact ih _ _ _ _ _ hw' (hn (v :: k) [] v (.inr ⟨hwt,.inr (.inl ⟨e,hv,rfl,rfl⟩)⟩))
    ·rw [r]
     exact ih _ _ _ _ _ hw' (hn (v :: k) [] v (.inr ⟨hwt,.inr (.inl ⟨e,hv,rfl,rfl⟩)⟩))
    ·rw [r]
     exact ih _ _ _ _ _ hw' (hn (undef :: k) [] undef (.inr ⟨hwt,.inr (.inl ⟨e,hv,rfl,rfl⟩)⟩))
   ·have r:=o3 e w
    have hk:=hn k [bk w.heap.size (L.cs i) (L.ty i)] (L.made i w.heap.size) (.inr ⟨hwt,.inr (.inr ⟨e,rfl,w.heap.size,rfl,rfl⟩)⟩)
    rw [r]
    exact ih _ _ _ _ _ (hM _ _ _ _ _ hw) hk
theorem qX (hP:∀listed k X Y a,X.Perm Y→Q listed k X a→Q listed k Y a){i:Nat}{oi:Oper}(hi:ops[i]? = some oi)(him:i < m)(hsel:∀(j:Nat) (o:Oper) cs b,ops[j]? = some o→o.op≠.select cs b) :
  ∀(n:Nat) (listed:Array Bool) (k:List Value) (X:List Ob) (a:Act),
   (∀j oj,ops[j]? = some oj→j≠i→listed.getD j true=false→(∀e∈oj.after,Region.binds md e=true→e.on≠i)→oi.apart ops oj=true) →
   (∃B:Nat→Bool,(∀j,B j=true→listed.getD j true=false∧∃oj,ops[j]? = some oj∧∃e∈oj.after,Region.binds md e=true∧(e.on=i∨B e.on=true)) ∧
    (heavy oi=true→∀j oj,ops[j]? = some oj→jW oj=true→j≠i→listed.getD j true=false→B j=true)∧(∀j oj,ops[j]? = some oj→m≤j→B j=true)) →
   i∈Region.ready md ops listed→rO P ops L oi i k X a (fun k' X' a'=>oO P ops L md m Q n (listed.setIfInBounds i true) k' X' a')→oO P ops L md m Q (n+1) listed k X a:=by
 have notB:∀(listed:Array Bool) (B:Nat→Bool),(∀j,B j=true→listed.getD j true=false∧∃oj,ops[j]? = some oj∧∃e∈oj.after,Region.binds md e=true∧(e.on=i∨B e.on=true)) →
   i∈Region.ready md ops listed→∀j,j∈Region.ready md ops listed→(B j=false∧∀oj,ops[j]? = some oj→∀e∈oj.after,Region.binds md e=true→e.on≠i):=by
  intro listed B b1 hr j hj
  obtain⟨hjun,oj,hoj,hall⟩:=jD.1 hj
  have hiun:=(jD.1 hr).1
  have hnot:∀e∈oj.after,Region.binds md e=true→e.on≠i:=fun e he hb heq=>by
   have h1:=hall e he hb
   rw [heq] at h1
   rcases jq i listed.size with h' | h'
   ·simp [h'] at hiun h1;rw [hiun] at h1;cases h1
   ·simp [eU h'] at h1
  refine⟨?_,fun oj' hoj'=>?_⟩
  ·by_cases hb:B j=true
   ·obtain⟨_,o',ho',e,he,hbe,hon⟩:=b1 j hb
    obtain rfl:oj=o':=by rw [hoj] at ho';exact cO ho'
    have h1:=hall e he hbe
    rcases hon with hon | hon
    ·exact absurd hon (hnot e he hbe)
    ·have h0:=(b1 _ hon).1
     rcases jq e.on listed.size with h' | h'
     ·simp [h'] at h0 h1;rw [h0] at h1;cases h1
     ·simp [eU h'] at h1
   ·simpa using hb
  ·obtain rfl:oj=oj':=by rw [hoj] at hoj';exact cO hoj'
   exact hnot
 intro n
 induction n with
 | zero =>
  intro listed k X a _ ⟨B,b1,_,b3⟩ hr ⟨hok,H⟩
  refine⟨fun h=>(by rw [h] at hr;cases hr),fun j hj=>?_⟩
  by_cases hji:j=i
  ·subst hji
   exact⟨him,fun o ho=>(by obtain rfl:oi=o:=(by rw [hi] at ho;exact cO ho);exact⟨hok,H⟩)⟩
  ·obtain⟨k',D,v,hO⟩:=hok.out
   have h1:=(H k' D v hO).1 j (oN hj hji)
   obtain⟨_,oj,hoj,_⟩:=jD.1 hj
   have h2:=b3 j oj hoj h1
   rw [(notB listed B b1 hr j hj).1] at h2
   cases h2
 | succ n ih =>
  intro listed k X a hfree ⟨B,b1,b2,b3⟩ hr ⟨hok,H⟩
  refine⟨fun h=>(by rw [h] at hr;cases hr),fun j hj=>?_⟩
  by_cases hji:j=i
  ·subst hji
   exact⟨him,fun o ho=>(by obtain rfl:oi=o:=(by rw [hi] at ho;exact cO ho);exact⟨hok,H⟩)⟩
  ·obtain⟨hBj,hnot'⟩:=notB listed B b1 hr j hj
   have hjm:j < m:=by
    rcases jq j m with h' | h'
    ·exact h'
    ·obtain⟨_,oj,hoj,_⟩:=jD.1 hj
     have:=b3 j oj hoj h'
     rw [hBj] at this
     cases this
   refine⟨hjm,fun oj hoj=>?_⟩
   have hnot:=hnot' oj hoj
   have hjun:=(jD.1 hj).1
   have hap:=hfree j oj hoj hji hjun hnot
   obtain⟨p1,p2,p3⟩:=Xu hap
   have hsi:=fun cs b=>hsel i oi cs b hi
   have hsj:=fun cs b=>hsel j oj cs b hoj
   have hcv:jW oi=true→heavy oi=true:=fun hc=>by unfold heavy;rw [hc];rfl
   have hnc:heavy oi=true→jW oj=false:=fun hc=>by
    by_cases hcj:jW oj=true
    ·have:=b2 hc j oj hoj hcj hji hjun
     rw [hBj] at this
     cases this
    ·simpa using hcj
   have hfree':∀m om,ops[m]? = some om→m≠i→(listed.setIfInBounds j true).getD m true=false →
     (∀e∈om.after,Region.binds md e=true→e.on≠i)→oi.apart ops om=true:=fun m om hm hmi hun hno=>by
    refine hfree m om hm hmi ?_ hno
    by_cases hjm:j=m
    ·subst hjm;exact hjun
    ·rw [iY true hjm] at hun;exact hun
   have hr':=oN hr (WV hji)
   -- what is known of j behind any outcome of i
   have hj2:∀k' D v,nH P ops L oi i k a k' D v→rO P ops L oj j k' (D ++ X) (a.put oi.dst v) (fun k'' X'' a''=>oO P ops L md m Q n ((listed.setIfInBounds i true).setIfInBounds j true) k'' X'' a'') :=
    fun k' D v hO=>((H k' D v hO).2 j (oN hj hji)).2 oj hoj
   have hsame:∀v,execOp a.eval oj=execOp (a.put oi.dst v).eval oj∧Region.wanted oj (yielded ops a.tmps)=Region.wanted oj (yielded ops (a.put oi.dst v).tmps):=fun v=>⟨(WQ oj hsj a oi.dst v p1).symm,(WO oj a oi.dst v p1).symm⟩
   have hokj:sV P ops L oj j k X a:=by
    obtain⟨k',D,v,hO⟩:=hok.out
    have h1:=(hj2 k' D v hO).1.same (hsame v).1 (hsame v).2
    by_cases hc:heavy oi=true
    ·exact h1.stage (hnc hc) k X
    ·have hc2:jW oi=false∧kindOf oi≠2:=by
      unfold heavy at hc
      simp only [xQ,not_or,WT] at hc
      exact⟨by simpa using hc.1,hc.2⟩
     rcases hO with ⟨_,rfl,rfl,_⟩ | ⟨_,⟨_,_,rfl,rfl⟩ | ⟨e,_⟩ | ⟨e,_⟩⟩
     ·exact h1
     ·exact h1
     ·exact absurd e (nV hc2.1)
     ·exact absurd e hc2.2
   refine⟨hokj,fun kj Dj u hOj=>?_⟩
   have hsi2:execOp (a.put oj.dst u).eval oi=execOp a.eval oi:=WQ oi hsi a oj.dst u p3
   have hwi2:Region.wanted oi (yielded ops (a.put oj.dst u).tmps)=Region.wanted oi (yielded ops a.tmps):=WO oi a oj.dst u p3
   have hstage:jW oi=true→kj=k:=fun hc=>(hOj.stage (hnc (hcv hc)) []).1
   have hoki:sV P ops L oi i kj (Dj ++ X) (a.put oj.dst u):=by
    by_cases hc:jW oi=true
    ·rw [hstage hc];exact(hok.same hsi2 hwi2).mono (fun b hb=>uV _ hb)
    ·exact(hok.same hsi2 hwi2).stage (by simpa using hc) kj _
   refine ih (listed.setIfInBounds j true) kj (Dj ++ X) (a.put oj.dst u) hfree' ⟨B,fun m hm=>?_,fun hc m om hom hcm hmi hun=>?_,b3⟩ hr' ⟨hoki,fun ki Di v hOi=>?_⟩
   ·obtain⟨c1,c2⟩:=b1 m hm
    refine⟨?_,c2⟩
    rw [iY true (by rintro rfl;rw [hm] at hBj;cases hBj)]
    exact c1
   ·refine b2 hc m om hom hcm hmi ?_
    by_cases hjm:j=m
    ·subst hjm;exact hjun
    ·rw [iY true hjm] at hun;exact hun
   ·have hOi':=hOi.same hsi2.symm hwi2.symm
    by_cases hc:jW oi=true
    ·obtain rfl:=hstage hc
     have h3:=(hj2 ki Di v hOi').2
     obtain⟨_,h4⟩:=(hOj.same (a':=a.put oi.dst v) (hsame v).1.symm (hsame v).2.symm).stage (hnc (hcv hc)) ki
     have h5:=h3 ki Dj u h4
     rw [jG _ _ (WV hji),wE a v u p2] at h5
     refine nY hP _ _ _ _ _ _ ?_ h5
     rw [← bu,← bu]
     exact dY X lQ
    ·obtain⟨rfl,h4⟩:=hOi'.stage (by simpa using hc) k
     have h3:=(hj2 k Di v h4).2
     have h5:=h3 ki Dj u (hOj.same (a':=a.put oi.dst v) (hsame v).1.symm (hsame v).2.symm)
     rw [jG _ _ (WV hji),wE a v u p2] at h5
     refine nY hP _ _ _ _ _ _ ?_ h5
     rw [← bu,← bu]
     exact dY X lQ
theorem nG {t:Nat}{Q0:List Value→List Ob→Act→Prop}(hP:∀listed k X Y a,X.Perm Y→Q listed k X a→Q listed k Y a)(hs:Region.noSelect ops=true)(hb:((List.range m).all fun i=>sD md ops m i (pR md ops i))=true)
  (hQ:∀listed k X a,tail4 md ops t m listed=true→Q0 k X a→Q listed k X a) :
  ∀(l:List Oper) (i:Nat) (listed:Array Bool) (k:List Value) (X:List Ob) (a:Act),i+l.length=m→(∀j,j < l.length→l[j]? = ops[i+j]?) →
  (∀j,listed.getD j true=false→i≤j)→(∀j,i≤j→j < ops.size→listed.getD j true=false) →
  zB md ops m t l.length i listed=true→qi P ops L Q0 i k X l a→oO P ops L md m Q l.length listed k X a
 | [],i,listed,k,X,a,_,_,_,_,hB,h=>by
  simp only [List.length_nil,zB,aH,dX,dG] at hB
  exact⟨hB.1,hQ _ _ _ _ hB.2 h⟩
 | o :: l,i,listed,k,X,a,him,hl,hlo,hhi,hB,h=>by
  have h0:ops[i]? = some o:=by simpa using (hl 0 (by simp)).symm
  simp only [List.length_cons,zB,aH] at hB
  obtain⟨⟨hr,hf⟩,hB'⟩:=hB
  have hlt:i < ops.size:=(aX.1 h0).1
  have hil:i < m:=by simp at him;omega
  have hmz:i < listed.size:=by
   rcases jq i listed.size with h' | h'
   ·exact h'
   ·have:=hhi i (au _) hlt;simp [eU h'] at this
  obtain⟨c1,c2,c3⟩:=rM ((dX.1 hb) i (iw.2 hil))
  refine qX hP h0 hil (xP hs) l.length listed k X a (Xe h0 hf) ⟨fun j=>(pR md ops i).contains j,fun j hj=>?_,fun hc j oj hoj hcj hji hun=>c2 (by unfold Ic;rw [h0];exact hc) j oj hoj hcj (by have:=hlo j hun;omega),c3⟩ (by simpa using hr) ⟨h.1,fun k' D v hO=>?_⟩
  ·obtain⟨g1,oj,hoj,g2⟩:=c1 j hj
   exact⟨hhi j (by omega) (aX.1 hoj).1,oj,hoj,g2⟩
  ·refine nG hP hs hb hQ l (i+1) _ k' _ _ (by simp at him;omega) (fun j hj=>by have:=hl (j+1) (by simpa using hj);simpa [lN,oZ 1 j] using this) ?_ ?_ hB' (h.2 k' D v hO)
   ·intro j hj
    by_cases hjm:i=j
    ·subst hjm;simp [hmz] at hj
    ·rw [iY true hjm] at hj;have:=hlo j hj;omega
   ·intro j hj hjs
    rw [iY true (by omega)]
    exact hhi j (by omega) hjs
theorem sH {id:Nat}{Q':Exit→Act→World→Prop}{a:Act}{w:World}{l:List Oper}(L:Pl)(m:Nat)(hm:P.follows .mixedOrders=true)(hB:xh .any l.toArray m (l.length - m)=true)
  (hS:∀k X w,L.C k X w→L.S w)(hM:∀k X w cs ty,L.C k X w→L.C k (bk w.heap.size cs ty :: X) (w.alloc (.cells cs.toArray ty)))(hP:∀k X Y w,X.Perm Y→L.C k X w→L.C k Y w)(hC:L.C [] [] w.drew)
  (h:qi P l.toArray L (fun k X a'=>∀w',L.C k X w'→wpList P l.toArray Q' (l.drop m) a' w') 0 [] [] (l.take m) a):(Code.region id l.toArray true).wp P Q' a w:=by
 simp only [xh,aH,dG] at hB
 obtain⟨⟨⟨hs,hlx⟩,hb⟩,hsz⟩:=hB
 have hml:m≤l.length:=by simp at hsz;omega
 have htk:(l.take m).length=m:=by simp [hml]
 refine XI hm ?_
 have h1:=nG (P:=P) (L:=L) (md:=.any) (m:=m) (t:=l.length - m) (Q:=fun listed k X a'=>∀w',L.C k X w'→wpAny P .any l.toArray Q' (l.length - m) listed a' w')
  (fun listed k X Y a hp hq w' hw'=>hq w' (hP _ _ _ _ hp.symm hw')) hs hb
  (fun listed k X a ht hq w' hw'=>by
   have:=tu (P:=P) (md:=.any) (ops:=l.toArray) (Q':=Q') (l.drop m) m listed a w' (fun j=>by simp) (by simpa using ht) (hq w' hw')
   simpa using this)
  (l.take m) 0 (Array.replicate l.toArray.size false) [] [] a (by rw [htk];omega) (fun j hj=>by rw [eX];simp at hj ⊢;omega) (by simp) (by simp;intro j hj;simp [hj]) (by rw [htk];exact hlx) h
 have h2:=ng (Q':=Q') hS hM (fun listed k X a w' hw' hq=>hq w' hw') _ _ [] [] a _ hC h1
 have e:(l.take m).length+(l.length - m)=l.toArray.size:=by rw [htk];simp;omega
 rw [e] at h2
 exact h2
end
section
variable {P : Program} {ops : Array Oper} {L : Pl} {Q : List Value → List Ob → Act → Prop} {i : Nat} {k : List Value} {X : List Ob} {o : Oper} {rest : List Oper} {a : Act}
theorem vU {S:World→Prop} [hne:Nonempty (dS S)] {v v':Value}(h:jo P S o a v)(h':jo P S o a v'):v=v':=by
 obtain⟨x⟩:=hne
 rcases h x.w x.h with e | ⟨e,rfl⟩ <;> rcases h' x.w x.h with e' | ⟨e',rfl⟩
 ·rw [e] at e';simpa using e'
 ·rw [e] at e';simp at e'
 ·rw [e] at e';simp at e'
 ·rfl
theorem aK (hw:Region.wanted o (yielded ops a.tmps)=false)(h:qi P ops L Q (i+1) k X rest (a.put o.dst undef)):qi P ops L Q i k X (o :: rest) a:=by
 refine⟨fun h'=>absurd (hw.symm.trans h') (by decide),fun k' D v hO=>?_⟩
 rcases hO with ⟨_,rfl,rfl,rfl⟩ | ⟨h',_⟩
 ·exact h
 ·rw [hw] at h';cases h'
theorem aN [hne:Nonempty (dS L.S)] (hk:kindOf o=0)(hc:jW o=false)(h:∀K:Act→Prop,Shut (∀a,qi P ops L Q (i+1) k X rest a→K a)→wpQuiet P ops (fun w'=>∃x:dS L.S,w'=x.w) K [o] a):qi P ops L Q i k X (o :: rest) a:=by
 have h1:=h (qi P ops L Q (i+1) k X rest) (fun _ h=>h)
 unfold wpQuiet at h1
 split at h1
 ·rename_i hw
  obtain⟨v,h2,h3⟩:=h1
  have hv:jo P L.S o a v:=fun w hS=>by
   have h4:=h2 w ⟨⟨w,hS⟩,rfl⟩
   unfold Oper.quietAt at h4
   generalize hr:(execOp a.eval o).run P w=r at h4
   cases r with
   | halt x w'=>exact h4.elim
   | ok n w' =>
    cases n <;> simp only [Oper.quietUpon] at h4
    case value u=>obtain⟨rfl,rfl⟩:=h4;exact .inl rfl
    case skip=>obtain⟨rfl,rfl⟩:=h4;exact .inr ⟨rfl,rfl⟩
    case enter f args=>exact absurd hr (zo (Lp hc))
  refine⟨fun _=>⟨fun _=>⟨v,hv⟩,fun e=>absurd (hk.symm.trans e) (by decide),fun e=>absurd (hk.symm.trans e) (by decide)⟩,fun k' D v' hO=>?_⟩
  rcases hO with ⟨h',_⟩ | ⟨_,⟨_,hv',rfl,rfl⟩ | ⟨e,_⟩ | ⟨e,_⟩⟩
  ·rw [hw] at h';cases h'
  ·rw [← vU hv hv'];exact h3
  ·rw [hk] at e;cases e
  ·rw [hk] at e;cases e
 ·rename_i hw
  exact aK (by simpa using hw) h1
theorem dM {f:FuncId}{args:Array Value}(hw:Region.wanted o (yielded ops a.tmps)=true)(hk:kindOf o=1)(hx:∀w,(execOp a.eval o).run P w=.ok (.enter f args) w)(hV:∃v,L.V k v)
  (hC:∀X w,L.C k X w→Calls P f args w (fun e w'=>∃v,e=.returned v∧L.V k v∧L.C (v :: k) X w'))(h:∀v,L.V k v→qi P ops L Q (i+1) (v :: k) X rest (a.put o.dst v)):qi P ops L Q i k X (o :: rest) a:=by
 refine⟨fun _=>⟨fun e=>absurd (hk.symm.trans e) (by decide),fun _=>⟨hV,fun X w _ hw'=>.inl ⟨f,args,hx w,hC X w hw'⟩⟩,fun e=>absurd (hk.symm.trans e) (by decide)⟩,fun k' D v' hO=>?_⟩
 rcases hO with ⟨h',_⟩ | ⟨_,⟨e,_⟩ | ⟨_,hv,rfl,rfl⟩ | ⟨e,_⟩⟩
 ·rw [hw] at h';cases h'
 ·rw [hk] at e;cases e
 ·exact h _ hv
 ·rw [hk] at e;cases e
theorem Bz (hw:Region.wanted o (yielded ops a.tmps)=true)(hk:kindOf o=1)(hV:∃v,L.V k v)
  (hC:∀X w,L.C k X w→∃v w',(execOp a.eval o).run P w=.ok (.value v) w'∧L.V k v∧L.C (v :: k) X w')(h:∀v,L.V k v→qi P ops L Q (i+1) (v :: k) X rest (a.put o.dst v)):qi P ops L Q i k X (o :: rest) a:=by
 refine⟨fun _=>⟨fun e=>absurd (hk.symm.trans e) (by decide),fun _=>⟨hV,fun X w _ hw'=>.inr (.inl (hC X w hw'))⟩,fun e=>absurd (hk.symm.trans e) (by decide)⟩,fun k' D v' hO=>?_⟩
 rcases hO with ⟨h',_⟩ | ⟨_,⟨e,_⟩ | ⟨_,hv,rfl,rfl⟩ | ⟨e,_⟩⟩
 ·rw [hw] at h';cases h'
 ·rw [hk] at e;cases e
 ·exact h _ hv
 ·rw [hk] at e;cases e
theorem rY (mk:Nat→Value)(cs:List Value)(ty:TypeId)(e1:L.made i=mk)(e2:L.cs i=cs)(e3:L.ty i=ty)(hw:Region.wanted o (yielded ops a.tmps)=true)(hk:kindOf o=2)
  (hx:∀w,(execOp a.eval o).run P w=.ok (.value (mk w.heap.size)) (w.alloc (.cells cs.toArray ty)))(h:∀g,qi P ops L Q (i+1) k (bk g cs ty :: X) rest (a.put o.dst (mk g))):qi P ops L Q i k X (o :: rest) a:=by
 subst e1 e2 e3
 refine⟨fun _=>⟨fun e=>absurd (hk.symm.trans e) (by decide),fun e=>absurd (hk.symm.trans e) (by decide),fun _=>hx⟩,fun k' D v' hO=>?_⟩
 rcases hO with ⟨h',_⟩ | ⟨_,⟨e,_⟩ | ⟨e,_⟩ | ⟨_,rfl,g,rfl,rfl⟩⟩
 ·rw [hw] at h';cases h'
 ·rw [hk] at e;cases e
 ·rw [hk] at e;cases e
 ·exact h g
theorem eH (h:Q k X a):qi P ops L Q i k X [] a:=h
end
end Go.Proofs.YtfelmdkeaacfeaaGreatDoor.W.RZ
end
