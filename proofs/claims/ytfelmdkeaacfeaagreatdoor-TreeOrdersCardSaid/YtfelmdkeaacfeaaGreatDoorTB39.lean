/- Texts joined: WkJ WkT RegX DoQ. -/
import Derived.Test.YtfelmdkeaacfeaaGreatDoorTB1
import Derived.Test.YtfelmdkeaacfeaaGreatDoorTB25
import Derived.Test.YtfelmdkeaacfeaaGreatDoorTB26
import Derived.OrdersIn
import Derived.TacticsIn
import Derived.OwnWalkIn
import Derived.Test.YtfelmdkeaacfeaaGreatDoorTB38
set_option maxRecDepth 100000
set_option maxHeartbeats 40000000
set_option linter.unusedVariables false
set_option linter.unusedSimpArgs false
section
namespace Go.Proofs.YtfelmdkeaacfeaaGreatDoor.W
open Go.RowKit
attribute [local go_sem] Oper.semAt_some
def NQ (b:Nat)(W:World):Option Nat:=(W.cell? ⟨b,2,none⟩).bind Value.ownBlock
structure EY (b:Nat) (W W':World):Prop where
 size:W.heap.size≤W'.heap.size
 kept:∀(k:Nat) (cs:Array Value) (t:TypeId) (fr:Nat×Nat),W.heap[k]? = some (Obj.cells cs t fr)→k≠b→NQ b W≠some k→W'.heap[k]? = some (Obj.cells cs t fr)
 sl:NQ b W'=NQ b W∨∀k,NQ b W'=some k→W.heap.size≤k∧k < W'.heap.size
theorem EY.trans {b:Nat}{A C D:World}(h:EY b A C)(k:EY b C D):EY b A D:=by
 refine⟨aQ h.size k.size,fun i cs t fr hi h1 h2=>k.kept i cs t fr (h.kept i cs t fr hi h1 h2) h1 (fun e=>?_),?_⟩
 ·rcases h.sl with e2 | e2
  ·exact h2 (e2 ▸ e)
  ·have:=(e2 i e).1;have:=hlt hi;omega
 ·rcases k.sl with e | e
  ·rcases h.sl with e2 | e2
   ·exact .inl (e.trans e2)
   ·exact .inr (fun i hi=>by have h1:=e2 i (e ▸ hi);have:=k.size;exact⟨h1.1,by omega⟩)
  ·exact .inr (fun i hi=>by have:=e i hi;have:=h.size;omega)
theorem Fz {b:Nat}{W W':World}(hb:b < W.heap.size)(k:Below W.heap.size W W'):NQ b W'=NQ b W:=by
 unfold NQ
 rw [k.cell (p:=⟨b,2,none⟩) hb]
theorem EY.below {b:Nat}{W W':World}(hb:b < W.heap.size)(k:Below W.heap.size W W'):EY b W W' :=
 ⟨k.size,fun i cs t fr hi _ _=>(k.block i (hlt hi)).trans hi,.inl (Fz hb k)⟩
structure LZ (b:Nat) (w0 W:World):Prop where
 Ve:EY b w0 W
 bb:b < w0.heap.size
 sb:∀k,NQ b w0=some k→k < w0.heap.size
theorem LZ.kp {b:Nat}{w0 W W':World}(h:LZ b w0 W)(k:EY b W W'):LZ b w0 W':=⟨h.Ve.trans k,h.bb,h.sb⟩
theorem LZ.lt {b:Nat}{w0 W:World}(h:LZ b w0 W):b < W.heap.size:=aO h.bb h.Ve.size
theorem LZ.hi {b:Nat}{w0 W:World}(h:LZ b w0 W){k:Nat}(hk:NQ b W=some k):k < W.heap.size:=by
 rcases h.Ve.sl with e | e
 ·exact aO (h.sb k (e ▸ hk)) h.Ve.size
 ·exact(e k hk).2
def UL (S:Tr)(b:Nat)(K:Nat→List Nat)(f i:Nat)(w0 W:World)(pre:List Nat)(J:List Nat→World→Prop)(v:Value)(jv:Value)(wr:World):Prop :=
 ∃(j B2:Nat),j≤(K i).length∧jv=.int .i64 (j:Int)∧J (pre ++ [i] ++ ((K i).take j).flatMap (dR K f)) wr∧EY b W wr∧LZ b w0 wr∧wr.ownsRow B2 3 1 v (K i).length (hC ((K i).map S.hd))∧∀k,v.ownBlock=some k→k≠b∧NQ b wr≠some k
def UN (R l b N:Nat)(S:Tr)(K:Nat→List Nat)(w0:World)(J Jx:List Nat→World→Prop)(f i:Nat):Prop :=
 ∀m pre W,LZ b w0 W→J pre W→pre.length+(dR K f i).length≤N →
  CallsIn Fence.wide m Tryz.prog 74 #[.pointer (some ⟨R,0,none⟩),.int .i64 (S.hd i),.func (.yield l) #[] #[]] W fun e W' =>
   (e=.returned (.bool true)∧J (pre ++ dR K f i) W'∧EY b W W')∨(e=.returned (.bool false)∧∃q,Jx q W')
theorem Dl {B R g cap N l b:Nat}{S:Tr}{fv:Value}{w0:World}{K:Nat→List Nat}{d:Nat→Nat}(h0:∀W,LZ b w0 W→fZ B R S (.slice (some ⟨g,0,none⟩) S.slots.length cap) fv W)(hL:Lk S K d){J Jx:List Nat→World→Prop}
  (hJ:∀s W W',J s W→Below W.heap.size W W'→J s W')
  (hY:∀m pre x W,J pre W→pre.length < N→YieldAt Fence.wide m Tryz.prog l #[.int .i64 (S.hd x)] W fun e W'=>(e=.returned (.bool true)∧J (pre ++ [x]) W'∧EY b W W')∨(e=.returned (.bool false)∧Jx (pre ++ [x]) W'))
  (f i:Nat)(n:Nd)(hi:S.at i=some n)(hw:dR K f i=i :: (K i).flatMap (dR K (f - 1)))(ih:∀k∈K i,UN R l b N S K w0 J Jx (f - 1) k):UN R l b N S K w0 J Jx f i:=by
 intro m pre W hI hj hN
 rw [hw] at hN ⊢
 obtain⟨fn,tmps,assign,body,hy,hR⟩:=hY (m - 1) pre i W hj (by simp at hN;omega)
 have HIH:=ae ih
 have HI:=ae hI
 have HJ:=ae hJ
 have hkl:=lX hL i
 clear ih hY hI hj hJ hw
 refine XL Tryz.func74 rfl trivial ?_ rfl
 simp only [Tryz.ntmps74,gZ,List.length_cons,List.length_nil,Nat.reduceAdd,Nat.reduceSub,ji,Array.replicate_zero,jS,jE,List.nil_append,List.cons_append]
 gi_wp2
 refine⟨fun h=>(by cases h),?_⟩
 refine hR.mono ?_
 rintro e W1 (⟨rfl,hj1,hk1⟩ | ⟨rfl,hx1⟩)
 ·have HI1:=ae (HI.out.kp hk1)
  have HK:=ae (pV (h0 _ HI1.out) hL i n hi)
  have HJ1:=ae hj1
  have HK1:=ae hk1
  clear hy hR hj1 hk1
  gi_wp2
  refine⟨trivial,fun h=>(by cases h),(jP.2 HK.out).mono ?_⟩
  rintro e W2 ⟨v,rfl,ho,hb2⟩
  obtain⟨va,vc,rfl⟩:=bP ho
  have hb:=HI1.out.lt
  have k2:=EY.below hb hb2
  have HO:=ae ho
  have hI2:=HI1.out.kp k2
  have HS:=ae (show UL S b K (f - 1) i w0 W pre J (.slice va (K i).length vc) (.int .i64 0) W2 from⟨0,W1.heap.size,by omega,rfl,by simpa using HJ.out _ _ _ HJ1.out hb2,HK1.out.trans k2,hI2,ho,fun k hk=>by
   have h1:=(ho.lt k hk).1
   refine⟨by omega,fun e=>?_⟩
   rw [Fz hb hb2] at e
   have:=HI1.out.hi e
   omega⟩)
  clear ho hb2 k2 hI2 HK
  gi_wp2
  gi_loopw [17] (fun jv wr=>UL S b K (f - 1) i w0 W pre J (.slice va (K i).length vc) jv wr) (fun jv _=>(K i).length - (intOf jv).toNat)
  case atStart=>exact HS.out
  case round =>
   obtain⟨j,B2,hjl,rfl,hjj,hkk,hii,hoo,hne⟩:=hrel
   have HOo:=ae hoo
   have HJj:=ae hjj
   have HKk:=ae hkk
   have HIi:=ae hii
   have HNe:=ae hne
   clear hjj hkk hii hne
   by_cases hlt:j < (K i).length
   ·obtain⟨k,hk⟩:∃k,(K i)[j]? = some k:=⟨_,ay hlt⟩
    obtain⟨gv,cp2,hv,hc⟩:=pO hoo (x:=S.hd k) (by rw [bI,hk];rfl)
    cases hv
    have hcg:=iG wr ⟨gv,j,none⟩ hc
    have HC:=ae (HIH.out k (ah hk) (m - 1) (pre ++ [i] ++ ((K i).take j).flatMap (dR K (f - 1))) wr HIi.out HJj.out (by
     have e:=iU hk (dR K (f - 1))
     have h2:(((K i).take (j+1)).flatMap (dR K (f - 1))).length≤((K i).flatMap (dR K (f - 1))).length:=by
      conv=>rhs;rw [← bG (j+1) (K i),jT]
      simp
     rw [e] at h2
     simp only [aA,List.length_cons,List.length_nil] at h2 hN ⊢
     omega))
    have HE:=ae (iU hk (dR K (f - 1)))
    clear hoo hk
    gi_wp2
    refine⟨trivial,fun h=>(by cases h),HC.out.mono ?_⟩
    rintro e W3 (⟨rfl,hj3,hk3⟩ | ⟨rfl,q,hx3⟩)
    ·have HS3:=ae (show UL S b K (f - 1) i w0 W pre J (.slice (some ⟨gv,0,none⟩) (K i).length vc) (.int .i64 ((j+1:Nat):Int)) W3 from⟨j+1,B2,by omega,rfl,by rw [HE.out];rw [bu] at hj3;exact hj3,HKk.out.trans hk3,HIi.out.kp hk3,gW HOo.out (fun g hg=>by
      obtain⟨cur,hcur⟩:=gJ HOo.out hg
      exact(hk3.kept g _ _ _ hcur (HNe.out g hg).1 (HNe.out g hg).2).trans hcur.symm),fun g hg=>⟨(HNe.out g hg).1,fun e=>by
       rcases hk3.sl with e2 | e2
       ·exact(HNe.out g hg).2 (e2 ▸ e)
       ·have:=(e2 g e).1;have:=(HOo.out.lt g hg).2;omega⟩⟩)
     clear hj3 hk3
     gi_wp2
     go_roundw
     case rel=>exact HS3.out
     case measure=>simp [intOf];omega
    ·have HX:=ae hx3
     clear hx3
     gi_wp2
     go_ret
     exact .inr ⟨rfl,_,HX.out⟩
   ·obtain rfl:j=(K i).length:=by omega
    rw [dE] at HJj
    clear hoo
    gi_wp2
    go_ret
    refine .inl ⟨rfl,?_,HKk.out⟩
    have:=HJj.out
    rw [bu] at this
    exact this
 ·have HX:=ae hx1
  clear hy hR hx1
  gi_wp2
  go_ret
  exact .inr ⟨rfl,_,HX.out⟩
theorem O5 {B R g cap N l b:Nat}{S:Tr}{fv:Value}{w0:World}{K:Nat→List Nat}{d:Nat→Nat}(h0:∀W,LZ b w0 W→fZ B R S (.slice (some ⟨g,0,none⟩) S.slots.length cap) fv W)(hL:Lk S K d){J Jx:List Nat→World→Prop}
  (hJ:∀s W W',J s W→Below W.heap.size W W'→J s W')
  (hY:∀m pre x W,J pre W→pre.length < N→YieldAt Fence.wide m Tryz.prog l #[.int .i64 (S.hd x)] W fun e W'=>(e=.returned (.bool true)∧J (pre ++ [x]) W'∧EY b W W')∨(e=.returned (.bool false)∧Jx (pre ++ [x]) W')) :
  ∀(f i:Nat) (n:Nd),S.at i=some n→128 - d i=f→UN R l b N S K w0 J Jx f i:=by
 intro f
 induction f with
 | zero =>
  intro i n hi hf
  have hK:K i=[]:=by
   cases e:K i with
   | nil=>rfl
   | cons k t =>
    have h1:=hL.qc i k (by rw [e];simp)
    have h2:=hL.low k
    omega
  exact Dl h0 hL hJ hY 0 i n hi (by rw [hK];rfl) (fun k hk=>by rw [hK] at hk;cases hk)
 | succ f ih =>
  intro i n hi hf
  refine Dl h0 hL hJ hY (f+1) i n hi rfl (fun k hk=>?_)
  obtain⟨j,hj⟩:=aI.1 hk
  obtain⟨nk,hnk⟩:=hL.some hj
  have hdk:=hL.qc i k hk
  have hlow:=hL.low k
  exact ih k nk hnk (by omega)
theorem O7 {B R g cap b i Bs Bh n:Nat}{S:Tr}{fv:Value}{w0 w:World}{K:Nat→List Nat}{d:Nat→Nat}(h0:∀W,LZ b w0 W→fZ B R S (.slice (some ⟨g,0,none⟩) S.slots.length cap) fv W)(hL:Lk S K d)(nd:Nd)(hi:S.at i=some nd)
  (hI:LZ b w0 w)(hBs:dD w Bs [.pointer (some ⟨R,0,none⟩)] 29)(hBh:dD w Bh [.int .i64 (S.hd i)] 3) :
  SeqStopsK Fence.wide n Tryz.prog 73 #[.pointer (some ⟨Bs,0,none⟩),.pointer (some ⟨Bh,0,none⟩)] (fun x:Nat=>#[Value.int .i64 (S.hd x)]) (EY b) (fun ys=>ys=dR K (128 - d i) i) (fun _=>True) (dR K (128 - d i) i).length w:=by
 intro l J Jx W hW hJ hJx hY hj
 have hbl:=hI.lt
 have hIW:=hI.kp (EY.below hbl hW)
 have hix:S.ix (S.hd i)=some i:=fV hL hi
 have HAt:=ae (bV (h0 _ hIW) (S.hd i) (hd_ok hL hi).1 hix)
 have c0:=(hBs.below hW).cell 0
 have c1:=(hBh.below hW).cell 0
 simp only [List.getElem?_cons_zero] at c0 c1
 have hlW:b < W.heap.size:=hIW.lt
 have HW:=ae (fun W1 (hb:Below W.heap.size W W1)=>O5 (N:=(dR K (128 - d i) i).length) (l:=l) (b:=b) (J:=J) (Jx:=Jx) h0 hL (fun s W W' hs hb=>hJ s W W' none hs (kU hb) (fun r e=>by cases e)) (fun m pre x W hp hl=>Fb m (hY pre x W hp hl)) (128 - d i) i nd hi rfl (n - 1) [] W1 (hIW.kp (EY.below hlW hb)) (hJ _ _ _ none hj (kU hb) (fun r e=>by cases e)) (by simp))
 have HBs:=ae (hBs.below hW)
 have HBh:=ae (hBh.below hW)
 clear hY hj hJ hJx hI hIW hBs hBh
 refine XL Tryz.func73 rfl trivial ?_ rfl
 simp only [Tryz.ntmps73,gZ,List.length_cons,List.length_nil,Nat.reduceAdd,Nat.reduceSub,ji,Array.replicate_zero,jS,jE,List.nil_append,List.cons_append]
 gi_wp2
 refine⟨trivial,fun h=>(by cases h),(jP.2 HAt.out).mono ?_⟩
 rintro e W1 ⟨rfl,hb1⟩
 have HW1:=ae (HW.out W1 hb1)
 have d0:=(HBs.out.below hb1).cell 0
 have d1:=(HBh.out.below hb1).cell 0
 simp only [List.getElem?_cons_zero] at d0 d1
 clear hb1 c0 c1 HW
 gi_wp2
 refine⟨trivial,fun h=>(by cases h),HW1.out.mono ?_⟩
 rintro e W2 (⟨rfl,hj2,hk2⟩ | ⟨rfl,q,hx2⟩)
 ·have HJ2:=ae hj2
  clear hj2 hk2
  gi_wp2
  go_end0
  exact⟨⟨_,rfl⟩,.inl ⟨_,rfl,by simpa using HJ2.out⟩⟩
 ·have HX:=ae hx2
  clear hx2
  gi_wp2
  go_end0
  exact⟨⟨_,rfl⟩,.inr ⟨q,trivial,HX.out⟩⟩
end Go.Proofs.YtfelmdkeaacfeaaGreatDoor.W
end
section
namespace Go.Proofs.YtfelmdkeaacfeaaGreatDoor.W.RZ
open Go
open Go.Proofs.YtfelmdkeaacfeaaGreatDoor.W
section
variable {P : Program} {ops : Array Oper} {L : Pl} {md : Region.Mode} {m n0 : Nat} {Q : Array Bool → List Value → List Ob → Act → Prop} {F : Go.Fence}
theorem Ah (hF:∀f,F.fn f)(hD:Option.isSome F.depth=false)(hcal:∀f args w R,Calls P f args w R→CallsIn F (n0 - 1) P f args w R)(hnd:∀(j:Nat) (o:Oper),ops[j]? = some o→∀c,o.op≠.defer c){t:Nat}{Q':Exit→Act→World→Prop}(hS:∀k X w,L.C k X w→L.S w)(hM:∀k X w cs ty,L.C k X w→L.C k (bk w.heap.size cs ty :: X) (w.alloc (.cells cs.toArray ty)))
  (hQ:∀listed k X a w,L.C k X w→Q listed k X a→wpAnyIn F n0 P md ops Q' t listed a w) :
  ∀(n:Nat) (listed:Array Bool) (k:List Value) (X:List Ob) (a:Act) (w:World),L.C k X w→oO P ops L md m Q n listed k X a→wpAnyIn F n0 P md ops Q' (n+t) listed a w:=by
 intro n
 induction n with
 | zero=>intro listed k X a w hw h;rw [aJ];exact hQ _ _ _ _ _ hw h.2
 | succ n ih =>
  intro listed k X a w hw h
  rw [show n+1+t=(n+t)+1 by omega]
  refine⟨fun e=>absurd e h.1,fun i hi=>?_⟩
  obtain⟨_,o,ho,_⟩:=jD.1 hi
  obtain⟨hok,hn⟩:=(h.2 i hi).2 o ho
  unfold wpOpIn
  simp only [ho]
  cases hwt:Region.wanted o (yielded ops a.tmps) with
  | false =>
   simp only [iV,iJ]
   exact⟨fun f _=>hF f,ih _ _ _ _ _ hw (hn k [] undef (.inl ⟨hwt,rfl,rfl,rfl⟩))⟩
  | true =>
   simp only [oW]
   obtain⟨o1,o2,o3⟩:=hok hwt
   unfold Oper.wpIn
   refine⟨fun f _=>hF f,?_⟩
   rw [Oper.semAt_plain F _ _ (hnd i o ho)]
   rcases lh o with e | e | e
   ·obtain⟨v,hv⟩:=o1 e
    have hk:=hn k [] v (.inr ⟨hwt,.inl ⟨e,hv,rfl,rfl⟩⟩)
    rcases hv w (hS _ _ _ hw) with r | ⟨r,rfl⟩
    ·rw [r];exact ih _ _ _ _ _ hw hk
    ·rw [r];exact ih _ _ _ _ _ hw hk
   ·rcases(o2 e).2 X w (fun _ h=>h) hw with ⟨f,args,r,hc⟩ | ⟨v,w',r,hv,hw'⟩ | ⟨w',r,hv,hw'⟩
    ·rw [r]
     refine⟨fun h=>(by rw [hD] at h;cases h),CallsIn.mono (hcal _ _ _ _ hc) ?_⟩
     rintro e2 w' ⟨v,rfl,hv,hw'⟩
     exact ih _ _ _ _ _ hw' (hn (v :: k) [] v (.inr ⟨hwt,.inr (.inl ⟨e,hv,rfl,rfl⟩)⟩))
    ·rw [r]
     exact ih _ _ _ _ _ hw' (hn (v :: k) [] v (.inr ⟨hwt,.inr (.inl ⟨e,hv,rfl,rfl⟩)⟩))
    ·rw [r]
     exact ih _ _ _ _ _ hw' (hn (undef :: k) [] undef (.inr ⟨hwt,.inr (.inl ⟨e,hv,rfl,rfl⟩)⟩))
   ·have r:=o3 e w
    have hk:=hn k [bk w.heap.size (L.cs i) (L.ty i)] (L.made i w.heap.size) (.inr ⟨hwt,.inr (.inr ⟨e,rfl,w.heap.size,rfl,rfl⟩)⟩)
    rw [r]
    exact ih _ _ _ _ _ (hM _ _ _ _ _ hw) hk
theorem xy (hF:∀f,F.fn f){Q':Exit→Act→World→Prop}:∀(l:List Oper) (k:Nat) (listed:Array Bool) (a:Act) (w:World),(∀j,l[j]? = ops[k+j]?)→tail4 md ops l.length k listed=true→wpListIn F n0 P ops Q' l a w→wpAnyIn F n0 P md ops Q' l.length listed a w
 | [],k,listed,a,w,hl,hB,h=>⟨by simpa [tail4] using hB,h⟩
 | o :: l,k,listed,a,w,hl,hB,h=>by
  have h0:ops[k]? = some o:=by simpa using (hl 0).symm
  simp only [List.length_cons,tail4,aH,WT] at hB
  obtain⟨hr,hB'⟩:=hB
  refine⟨fun e=>(by rw [hr] at e;cases e),fun i hi=>?_⟩
  rw [hr,eF] at hi
  subst hi
  unfold wpOpIn
  simp only [h0]
  have hrec:∀a' w',wpListIn F n0 P ops Q' l a' w'→wpAnyIn F n0 P md ops Q' l.length (listed.setIfInBounds i true) a' w':=fun a' w' h'=>xy hF l (i+1) _ a' w' (fun j=>by have:=hl (j+1);simpa [lN,oZ 1 j] using this) hB' h'
  unfold wpListIn at h
  split
  ·rename_i hw
   rw [aC hw] at h
   exact Oper.wpIn_mono hrec h
  ·rename_i hw
   rw [ax hw] at h
   exact⟨h.1,hrec _ _ h.2⟩
def G7 (o:Oper):Bool:=match o.op with | .defer _=>false | _=>true
theorem KR {o:Oper}(h:G7 o=true)(c:Call):o.op≠.defer c:=fun e=>by
 unfold G7 at h
 rw [e] at h
 cases h
theorem TV {id:Nat}{Q':Exit→Act→World→Prop}{a:Act}{w:World}{l:List Oper}(L:Pl)(m:Nat)(hF:∀f,F.fn f)(hD:Option.isSome F.depth=false)(hcal:∀f args w R,Calls P f args w R→CallsIn F (n0 - 1) P f args w R)(hm:P.follows .mixedOrders=true)(hB:xh .any l.toArray m (l.length - m)=true)(hnd:l.all G7=true)
  (hS:∀k X w,L.C k X w→L.S w)(hM:∀k X w cs ty,L.C k X w→L.C k (bk w.heap.size cs ty :: X) (w.alloc (.cells cs.toArray ty)))(hP:∀k X Y w,X.Perm Y→L.C k X w→L.C k Y w)(hC:L.C [] [] w.drew)
  (h:qi P l.toArray L (fun k X a'=>∀w',L.C k X w'→wpListIn F n0 P l.toArray Q' (l.drop m) a' w') 0 [] [] (l.take m) a):(Code.region id l.toArray true).wpIn F n0 P Q' a w:=by
 simp only [xh,aH,dG] at hB
 obtain⟨⟨⟨hs,hlx⟩,hb⟩,hsz⟩:=hB
 have hml:m≤l.length:=by simp at hsz;omega
 have htk:(l.take m).length=m:=by simp [hml]
 have hnd':∀(j:Nat) (o:Oper),l.toArray[j]? = some o→∀c,o.op≠.defer c:=fun j o ho=>by
  rw [dX] at hnd
  exact KR (hnd o (ah (by simpa using ho)))
 refine wpIn_region_any hm ?_
 have h1:=nG (P:=P) (L:=L) (md:=.any) (m:=m) (t:=l.length - m) (Q:=fun listed k X a'=>∀w',L.C k X w'→wpAnyIn F n0 P .any l.toArray Q' (l.length - m) listed a' w')
  (fun listed k X Y a hp hq w' hw'=>hq w' (hP _ _ _ _ hp.symm hw')) hs hb
  (fun listed k X a ht hq w' hw'=>by
   have:=xy (P:=P) (md:=.any) (ops:=l.toArray) (n0:=n0) (Q':=Q') hF (l.drop m) m listed a w' (fun j=>by simp) (by simpa using ht) (hq w' hw')
   simpa using this)
  (l.take m) 0 (Array.replicate l.toArray.size false) [] [] a (by rw [htk];omega) (fun j hj=>by rw [eX];simp at hj ⊢;omega) (by simp) (by simp;intro j hj;simp [hj]) (by rw [htk];exact hlx) h
 have h2:=Ah (n0:=n0) (Q':=Q') hF hD hcal hnd' hS hM (fun listed k X a w' hw' hq=>hq w' hw') _ _ [] [] a _ hC h1
 have e:(l.take m).length+(l.length - m)=l.toArray.size:=by rw [htk];simp;omega
 rw [e] at h2
 exact h2
end
theorem JI {P:Program}{n l:Nat}(f:FuncId)(args:Array Value)(w:World)(R:Ending→World→Prop)(h:Calls P f args w R):CallsIn (Fence.wide.inRound l) n P f args w R:=(jP (n:=n)).2 h
end Go.Proofs.YtfelmdkeaacfeaaGreatDoor.W.RZ
end
section
namespace Go.Proofs.YtfelmdkeaacfeaaGreatDoor.W
open Go.RowKit
inductive OV (S:Tr) (K:Nat→List Nat) (d:Nat→Nat) (i:Nat) (n:Nd) (deep:Bool):Tr→Int→Int→Prop
 | doc (h:n.kind=1):OV S K d i n deep S 0 10
 | deep (h:n.kind≠1) (hd:deep=true) (S':Tr) (K':Nat→List Nat) (d':Nat→Nat) (r:Nat→Nat) (C:Cm S K d S' K' d' i K (dR K (128 - d i) i) r):OV S K d i n deep S' (S.hd (r i)) 0
 | flat (h:n.kind≠1) (hd:deep=false) (S':Tr) (K':Nat→List Nat) (d':Nat→Nat) (r:Nat→Nat) (C:Cm S K d S' K' d' i (kJ K i 0) [i] r):OV S K d i n deep S' (S.hd (r i)) 0
section
variable {B : Nat} {w0 w w' W W' : World} {l : List Ob} {g R Q b gh i : Nat} {hv hv' sv fv nv : Value} {S : Tr} {K : Nat → List Nat} {d : Nat → Nat} {X : List MX} {Hs Hs' : List Int} {hd : Int} {n : Nd} {deep : Bool} {c : Nat}
theorem Po (h:fZ 0 R S sv fv w)(T:iP c S K d)(i:Nat)(n:Nd)(hi:S.at i=some n)(hs:S.slots.length≤3000)(deep:Bool) :
  Calls Tryz.prog 23 #[.pointer (some ⟨R,0,none⟩),.int .i64 (S.hd i),.bool deep] w fun e w'=>∃S' sv' fv' h er,OV S K d i n deep S' h er∧e=.returned (.tuple #[.int .i64 h,.int .i64 er])∧qh R S sv fv w S' sv' fv' w':=by
 have hfl:=T.Ju
 have hal:∀x m,S.at x=some m→m.attrs.length≤1000:=fun x m hx=>by have:=(T.nd x m hx).al;omega
 by_cases hk:n.kind=1
 ·refine(NK h T.lk i n hi hk deep).mono ?_
  rintro e w' ⟨rfl,hb⟩
  exact⟨S,sv,fv,0,10,.doc hk,rfl,qh.refl h hb⟩
 ·cases deep with
  | true =>
   refine(Kq h T.lk T.fr T.rZ i n hi hk hal (by omega) (by have:=oz T.lk (128 - d i) i (by rw [hi];rfl);omega)).mono ?_
   rintro e w' ⟨h',rfl,S',sv',fv',K',d',r,he,hT,hC,hch,h1,h2,h3⟩
   obtain rfl:h'=S.hd (r i):=by simpa using he
   exact⟨S',sv',fv',_,0,.deep hk rfl S' K' d' r hC,rfl,hT,hch.mono (fun k _ hk=>hk.imp id .inl),h3⟩
  | false =>
   refine(Ko h T.lk T.fr T.rZ i n hi hk (hal i n hi) (by omega) (by omega)).mono ?_
   rintro e w' ⟨h',rfl,S',sv',fv',K',d',r,he,hT,hC,hch,h1,h2,h3⟩
   obtain rfl:h'=S.hd (r i):=by simpa using he
   exact⟨S',sv',fv',_,0,.flat hk rfl S' K' d' r hC,rfl,hT,hch.mono (fun k _ hk=>hk.imp id .inl),h3⟩
abbrev UK (b g:Nat):Ob:=bk b [.pointer (some ⟨g,0,none⟩)] 25
structure TK (g R Q gh i b:Nat) (hv:Value) (hd:Int) (w:World):Prop where
 bk:dD w g [.pointer (some ⟨R,0,none⟩),.pointer (some ⟨Q,0,none⟩),hv] 33
 hc:w.cell? ⟨gh,i,none⟩=some (.int .i64 hd)
 bx:dD w b [.pointer (some ⟨g,0,none⟩)] 25
theorem zS (h:All B w0 (kK g R Q hv Hs S sv fv nv X ++ UK b g :: l) w):dD w b [.pointer (some ⟨g,0,none⟩)] 25:=h.P (UK b g) (by simp)
def SY (B:Nat)(w0:World)(l:List Ob)(g R Q b:Nat)(hv:Value)(Hs:List Int)(nv:Value)(X:List MX)(S:Tr)(K:Nat→List Nat)(d:Nat→Nat)(i:Nat)(n:Nd)(deep:Bool)(v:Value)(w':World):Prop :=
 ∃S' sv' fv' h er,v=.tuple #[.int .i64 h,.int .i64 er]∧OV S K d i n deep S' h er∧All B w0 (kK g R Q hv Hs S' sv' fv' nv X ++ UK b g :: l) w'
theorem LU {i:Nat}(v:Value)(w1 w2:World)(h:SY B w0 l g R Q b hv Hs nv X S K d i n deep v w1)(hb:Below w1.heap.size w1 w2):SY B w0 l g R Q b hv Hs nv X S K d i n deep v w2:=by
 obtain⟨S',sv',fv',h,er,e,hr,hA⟩:=h
 exact⟨S',sv',fv',h,er,e,hr,hA.still hb⟩
theorem Vk {m vc:Nat}(hA:All B w0 (kK g R Q (.slice (some ⟨gh,0,none⟩) m vc) Hs S sv fv nv X ++ UK b g :: l) w)(hc:w.cell? ⟨gh,i,none⟩=some (.int .i64 hd))(w':World)(h:jc w w'):TK g R Q gh i b (.slice (some ⟨gh,0,none⟩) m vc) hd w' :=
 ⟨bF (hA.still h),aU h hc,zS (hA.still h)⟩
theorem VJ {m vc y:Nat}(hn:Hs.length=m)(hi:Hs[i]? = some hd)(v:Value)(w':World)(h:SY B w0 l g R Q b (.slice (some ⟨gh,0,none⟩) m vc) Hs nv X S K d y n deep v w'):TK g R Q gh i b (.slice (some ⟨gh,0,none⟩) m vc) hd w':=by
 obtain⟨S',sv',fv',v0,er,e,hr,hA⟩:=h
 obtain⟨gh',e2,_,hc⟩:=jk hA hn i hd hi
 cases e2
 exact⟨bF hA,hc,zS hA⟩
theorem Dy (h:All B w0 (kK g R Q hv Hs S sv fv nv X ++ l) w):NQ g w=hv.ownBlock:=by
 have:=(bF h).cell 2
 simp only [fQ,fP] at this
 unfold NQ;rw [this];rfl
theorem TP (h:All B w0 (kK g R Q hv Hs S sv fv nv X ++ l) w)(W:World)(k:LZ g w W):fZ 0 R S sv fv W:=by
 have ap:=h.apart
 simp only [kK,List.cons_append,List.nil_append,lS] at ap
 obtain⟨a1,a2,_⟩:=ap
 refine(Bg R S sv fv).loc w W (jF h) (fun i hi=>?_)
 obtain⟨cur,t,hc,_⟩:=J7 (jF h) hi
 refine(k.Ve.kept i _ _ _ hc (fun e=>?_) (fun e=>?_)).trans hc.symm
 ·exact a1 (Bg R S sv fv) (by simp) i e hi
 ·rw [Dy h] at e
  exact a2 (Bg R S sv fv) (by simp) i e hi
theorem Q8 (h:All B w0 (kK g R Q hv Hs S sv fv nv X ++ l) w):LZ g w w :=
 ⟨⟨au _,fun _ _ _ _ h _ _=>h,.inl rfl⟩,(bF h).lt,fun k hk=>by rw [Dy h] at hk;exact jy (lL h) hk⟩
theorem All.grownBy {row:Option Nat}(h:All B w0 l w)(hg:w.grownBy w' row)(hr:∀k,row=some k→B≤k∧∀o∈l,¬o.F k):All B w0 l w' :=
 ⟨fun o ho=>o.loc w w' (h.P o ho) (fun k hk=>hg.block k (o.here w (h.P o ho) k hk) (fun e=>(hr k e.symm).2 o ho hk)),h.apart,h.base,h.below.grown hg h.le (fun k e=>(hr k e).1),aQ h.le hg.size⟩
theorem QC {row:Option Nat}(h0:All B w0 (kK g R Q hv Hs S sv fv nv X ++ l) w)(hI:All B w0 (kK g R Q hv' Hs' S sv fv nv X ++ l) W)(hg:W.grownBy W' row)(hr:∀k,row=some k→w.heap.size≤k∧∃o:Obj,W.heap[k]? = some o∧o.isCells=false):All B w0 (kK g R Q hv' Hs' S sv fv nv X ++ l) W':=by
 refine hI.grownBy hg (fun k e=>⟨aQ h0.le (hr k e).1,fun o ho hk=>?_⟩)
 obtain⟨h1,ob,h2,h3⟩:=hr k e
 simp only [kK,List.cons_append,List.nil_append,bn] at ho
 rcases ho with rfl | rfl | ho
 ·have:k=g:=hk
  have:=(bF h0).lt
  omega
 ·obtain⟨cur,hc⟩:=gJ (lL hI) hk
  rw [hc] at h2;cases h2;cases h3
 ·have:=o.here w (h0.P o (by simp only [kK,List.cons_append,List.nil_append,bn];exact .inr (.inr ho))) k hk
  omega
structure Vp (g R Q b:Nat) (hv:Value) (w:World):Prop where
 bk:dD w g [.pointer (some ⟨R,0,none⟩),.pointer (some ⟨Q,0,none⟩),hv] 33
 bx:dD w b [.pointer (some ⟨g,0,none⟩)] 25
def OZ (W:World)(hv:Value)(xs:List Int)(u:Int):List Value→List Ob→World→Prop
 | [],_,w'=>Below W.heap.size W w'
 | [v0],_,w'=>Below W.heap.size W w'∧(∃g0,v0=.slice (some ⟨g0,0,none⟩) 1 1)∧Own w' 3 1 v0 1 [.int .i64 u]
 | [v1,_],_,w'=>dU (fun b=>hv.ownBlock=some b) W w'∧Own w' 3 1 v1 (xs.length+1) (hC xs ++ [.int .i64 u])∧(v1.ownBlock=hv.ownBlock∨∀b,v1.ownBlock=some b→W.heap.size≤b)
 | _,_,_=>False
def Wp (n:Nat):List Value→Value→Prop
 | [],v=>∃g0,v=.slice (some ⟨g0,0,none⟩) 1 1
 | _,v=>∃a c,v=.slice a (n+1) c
theorem OZ.alloc {xs:List Int}{u:Int}(k:List Value)(Y:List Ob)(w':World)(cs:List Value)(ty:TypeId)(h:OZ W hv xs u k Y w'):OZ W hv xs u k (Go.Proofs.YtfelmdkeaacfeaaGreatDoor.W.bk w'.heap.size cs ty :: Y) (w'.alloc (.cells cs.toArray ty)):=by
 have hb:Below w'.heap.size w' (w'.alloc (.cells cs.toArray ty)):=(ak _ _).alloc (au _) _
 match k,h with
 | [],h=>exact aV h hb
 | [v0],h=>exact⟨aV h.1 hb,h.2.1,bH h.2.2 hb⟩
 | [v1,_],h=>exact⟨h.1.trans (dU.of_below hb) (fun _ _ e=>e),bH h.2.1 hb,h.2.2⟩
theorem OZ.perm {xs:List Int}{u:Int}(k:List Value)(Y Z:List Ob)(w':World)(hp:Y.Perm Z)(h:OZ W hv xs u k Y w'):OZ W hv xs u k Z w':=by
 match k,h with
 | [],h=>exact h
 | [v0],h=>exact h
 | [v1,_],h=>exact h
theorem OZ.qU {xs:List Int}{u:Int}{k:List Value}{Y:List Ob}(h:OZ W hv xs u k Y w'):dU (fun b=>hv.ownBlock=some b) W w':=by
 match k,h with
 | [],h=>exact dU.of_below h
 | [v0],h=>exact dU.of_below h.1
 | [v1,_],h=>exact h.1
theorem U5 {u:Int}(hA:All B w0 (kK g R Q hv Hs S sv fv nv X ++ UK b g :: l) W)(k:List Value)(Y:List Ob)(w':World)(h:OZ W hv Hs u k Y w'):Vp g R Q b hv w':=by
 have hc:=h.qU
 have hb:=bF hA
 have hx:=zS hA
 refine⟨hb.kept (hc.block g hb.lt (fun e=>?_)),hx.kept (hc.block b hx.lt (fun e=>?_))⟩
 ·obtain⟨cur,hcur⟩:=gJ (lL hA) e
  exact dw hcur hb (by decide) rfl
 ·obtain⟨cur,hcur⟩:=gJ (lL hA) e
  exact dw hcur hx (by decide) rfl
theorem TY {u:Int}{v:Value}(hA:All B w0 (kK g R Q hv Hs S sv fv nv X ++ l) W)(hch:dU (fun b=>hv.ownBlock=some b) W w')(ho:Own w' 3 1 v (Hs.length+1) (hC Hs ++ [.int .i64 u]))(hl:v.ownBlock=hv.ownBlock∨∀b,v.ownBlock=some b→W.heap.size≤b) :
  All B w0 (kK g R Q v (Hs ++ [u]) S sv fv nv X ++ l) (w'.setCell ⟨g,2,none⟩ v)∧EY g W (w'.setCell ⟨g,2,none⟩ v)∧KeepsOthers W (w'.setCell ⟨g,2,none⟩ v):=by
 have h1:All B w0 ([bk g [.pointer (some ⟨R,0,none⟩),.pointer (some ⟨Q,0,none⟩),hv] 33] ++ sl 3 1 v (Hs.length+1) (hC Hs ++ [.int .i64 u]) :: ([Bg R S sv fv,ui Q nv X] ++ l)) w':=by
  refine All.step [bk g [.pointer (some ⟨R,0,none⟩),.pointer (some ⟨Q,0,none⟩),hv] 33] (o:=sl 3 1 hv Hs.length (hC Hs)) (l2:=[Bg R S sv fv,ui Q nv X] ++ l) hA ho hch (fun k hk=>?_)
  rcases hl with e | e
  ·exact .inl (by show hv.ownBlock=some k;rw [← e];exact hk)
  ·exact .inr (e k hk)
 have h2:=Gx (hh:=u) h1
 have hgl:=(bF hA).lt
 refine⟨h2,⟨?_,fun k cs t fr hk h3 h4=>?_,?_⟩,?_⟩
 ·have:=hch.size
  simpa [World.setCell] using this
 ·rw [Dy hA] at h4
  exact(aF _ _ _ _ h3).trans ((hch.block k (hlt hk) h4).trans hk)
 ·rw [Dy h2,Dy hA]
  rcases hl with e | e
  ·exact .inl e
  ·exact .inr (fun k hk=>⟨e k hk,jy (lL h2) hk⟩)
 ·refine KeepsOthers.trans ⟨hch.size,fun k o hk ho=>(hch.block k (hlt hk) (fun e=>?_)).trans hk⟩ (rq _ _ _)
  obtain⟨cur,hcur⟩:=gJ (lL hA) e
  rw [hcur] at hk;cases hk;cases ho
end
theorem EY.Ue {b:Nat}{W:World}(l:Nat)(o o':Obj)(h:W.heap[l]? = some o)(ho:o.isCells=false)(hb:b≠l):EY b W (W.putObj l o'):=by
 have hne:∀(k:Nat) (cs:Array Value) (t:TypeId) (fr:Nat×Nat),W.heap[k]? = some (Obj.cells cs t fr)→k≠l:=fun k cs t fr hk e=>by
  subst e;rw [hk] at h;cases h;cases ho
 refine⟨by simp,fun k cs t fr hk _ _=>(kV (hne k cs t fr hk)).trans hk,.inl ?_⟩
 unfold NQ
 have e:(W.putObj l o').heap[b]? = W.heap[b]?:=kV hb
 unfold World.cell?
 simp only [e]
end Go.Proofs.YtfelmdkeaacfeaaGreatDoor.W
end
