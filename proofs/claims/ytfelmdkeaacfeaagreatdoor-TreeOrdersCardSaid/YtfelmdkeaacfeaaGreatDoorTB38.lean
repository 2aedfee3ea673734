/- Texts joined: Tcp Tcy DoP. -/
import Derived.Test.YtfelmdkeaacfeaaGreatDoorTB1
import Derived.Test.YtfelmdkeaacfeaaGreatDoorTB17
import Derived.Test.YtfelmdkeaacfeaaGreatDoorTB37
import Derived.Test.YtfelmdkeaacfeaaGreatDoorTB19
import Derived.Test.YtfelmdkeaacfeaaGreatDoorTB5
import Derived.Test.YtfelmdkeaacfeaaGreatDoorTB15
import Derived.Test.YtfelmdkeaacfeaaGreatDoorTB27
import Derived.Test.YtfelmdkeaacfeaaGreatDoorTB35
set_option maxRecDepth 100000
set_option maxHeartbeats 40000000
set_option linter.unusedVariables false
set_option linter.unusedSimpArgs false
section
namespace Go.Proofs.YtfelmdkeaacfeaaGreatDoor.W
open Go.RowKit
def qN (B R:Nat)(S:Tr)(sv fv:Value)(K:Nat→List Nat)(d:Nat→Nat)(i:Nat)(KJ:Nat→List Nat)(P:List Nat)(w:World)(e:Ending)(w':World):Prop :=
 ∃S' sv' fv' K' d' r,e=.returned (.int .i64 (S.hd (r i)))∧fZ B R S' sv' fv' w'∧Cm S K d S' K' d' i KJ P r∧dU (fun k=>k=R∨sv.ownBlock=some k) w w'∧(sv'.ownBlock=sv.ownBlock∨∃k,sv'.ownBlock=some k∧w.heap.size≤k)∧fv'.ownBlock=fv.ownBlock∧(∀k,yR R S' sv' fv' k→yR R S sv fv k∨w.heap.size≤k)
def EC (f:Nat):Prop :=
 ∀(B R:Nat) (S:Tr) (sv fv:Value) (w:World) (K:Nat→List Nat) (d:Nat→Nat),fZ B R S sv fv w→Lk S K d→(∀i∈S.free,S.slots[i]? = some none)→S.free.Nodup →
 ∀(i:Nat) (n:Nd),S.at i=some n→128 - d i=f→(∀x m,S.at x=some m→m.attrs.length≤1000)→S.free.length≤900000→S.slots.length+(dR K f i).length≤900000 →
  Calls Tryz.prog 70 #[.pointer (some ⟨R,0,none⟩),.int .i64 (S.hd i),.bool true] w (qN B R S sv fv K d i K (dR K f i) w)
def V5 (B R:Nat)(S:Tr)(sv fv:Value)(K:Nat→List Nat)(d:Nat→Nat)(f i:Nat)(w:World)(kv:Value)(jv:Value)(wr:World):Prop :=
 ∃(j B2:Nat) (S1:Tr) (sv1 fv1:Value) (K1:Nat→List Nat) (d1:Nat→Nat) (r:Nat→Nat),j≤(K i).length∧jv=.int .i64 (j:Int)∧r i=S.mV∧Cm S K d S1 K1 d1 i (kJ K i j) (pJ K f i j) r∧fZ B R S1 sv1 fv1 wr∧wr.ownsRow B2 3 1 kv (K i).length (hC ((K i).map S.hd)) ∧
  dU (fun k=>k=R∨sv.ownBlock=some k) w wr∧(sv1.ownBlock=sv.ownBlock∨∃k,sv1.ownBlock=some k∧w.heap.size≤k)∧fv1.ownBlock=fv.ownBlock∧(∀k,kv.ownBlock=some k→w.heap.size≤k∧sv1.ownBlock≠some k)∧(∀k,yR R S1 sv1 fv1 k→yR R S sv fv k∨w.heap.size≤k)
theorem BH (f:Nat)(ih:f≠0→EC (f - 1)):EC f:=by
 intro B R S sv fv w K d h hL hfr hfn i n hi hf hal hfl hcap
 obtain⟨g,cap,rfl⟩:=fO h (by have:=iy hi;omega)
 have hsi:(S.at i).isSome=true:=by rw [hi];rfl
 have HT:=ae h
 have HL:=ae hL
 have hlow:=hL.low i
 have hpos:=hL.pos i hsi
 have hkl:=lX hL i
 -- the walk as it grows
 have HW:=ae (show dR K f i=pJ K (f - 1) i (K i).length from by
  cases f with
  | zero =>
   have hK:K i=[]:=by
    cases e:K i with
    | nil=>rfl
    | cons k t =>
     have h1:=hL.qc i k (by rw [e];simp)
     have h2:=hL.low k
     omega
   unfold pJ;rw [hK];rfl
  | succ f=>exact(Ru K f i).symm)
 have HN:=ae (wM h (S.hd i) (hd_ok hL hi).1 (fV hL hi) (dN hi) (hal i n hi))
 have HK:=ae (fun wx (hb:Below w.heap.size w wx)=>pV (h.below hb) hL i n hi)
 obtain⟨nk,nn,nav,nal,nda,np,nf,nl,npv,nx⟩:=n
 have HAd:=ae (fun wx (hb:Below w.heap.size w wx) (v:Value) (hv:jA B wx v nal)=>add_any (h.below hb) hfr (by omega) (by have:=CB K f i;omega) ⟨nk,nn,v,nal,nda,0,0,0,0,0⟩ hv)
 have HSt:=ae (fun(v:Value) (r:Nat→Nat) (hr:r i=S.mV)=>Gj (n0:=⟨nk,nn,v,nal,nda,0,0,0,0,0⟩) hL hfr hfn (by have:=CB K f i;omega) hi rfl rfl rfl rfl rfl rfl rfl rfl rfl (KJ:=kJ K i 0) (by unfold kJ;simp) (r:=r) hr)
 have hBR:=h.base
 have hRl:=h.blk.lt
 have hgl:=(h.slots.lt g rfl).2
 have hzR:=h.blk.free
 have HAl:=ae hal
 have HFr:=ae hfr
 have HI:=ae hi
 clear h hL hi hfr hal
 go_enter Tryz.func70,Tryz.ntmps70
 go_wp2_with fail
 refine HN.out.mono ?_
 rintro e w1 ⟨v',rfl,ho1,hb1⟩
 obtain⟨va,vc,rfl⟩:=bP ho1
 have hx1:=dD.new w1 (jd ⟨nk,nn,.slice va nal.length vc,nal,nda,np,nf,nl,npv,nx⟩) 62
 have hb1':=hb1.alloc hb1.size (.cells (jd ⟨nk,nn,.slice va nal.length vc,nal,nda,np,nf,nl,npv,nx⟩).toArray 62)
 have HO1:=ae (fH ho1 ((ak w1.heap.size w1).alloc (au _) (.cells (jd ⟨nk,nn,.slice va nal.length vc,nal,nda,np,nf,nl,npv,nx⟩).toArray 62)))
 clear ho1
 simp only [jd,dA] at hx1 hb1' HO1 ⊢
 go_wp2_with fail
 generalize hr1:w1.heap.size=r1 at *
 generalize w1.alloc _=w2 at *
 refine(HK.out _ hb1').mono ?_
 rintro e w3 ⟨kv,rfl,hok,hb3⟩
 obtain⟨ka,kc,rfl⟩:=bP hok
 have HKv:=ae hok
 have hs2:=hb1'.size
 have HB3:=ae (aV hb1' hb3)
 have HX3:=ae (dD.below hx1 hb3)
 have HO3:=ae (fH HO1.out hb3)
 clear hx1 hb1 hb1' hb3 hok HO1 HN HK
 go_upto_region 3 with fail
 have hne:=gI w3
 have hgl3:=HX3.out.lt
 have xs:=fun(x:dS (jc w3))=>HX3.out.below x.h
 have z0:=fun x=>(xs x).cell 0
 have z1:=fun x=>(xs x).cell 1
 have z2:=fun x=>(xs x).cell 2
 have z3:=fun x=>(xs x).cell 3
 simp only [fQ,fP] at z0 z1 z2 z3
 clear xs
 refine oP (fun _=>undef) 12 (by kernel_rfl) (by kernel_rfl) ?_
 simp only [mD,mr,l9,lZ]
 repeat (first
  | (refine aN (by rfl) (by rfl) (fun K hK=>?_);go_big_quiet_step (fail);refine az ?_;refine hK.out _ ?_;clear hK K)
  | (refine aK (by rfl) ?_;simp only [Act.put,dL,dK,dJ]))
 refine eH ?_
 intro w4 h4
 clear z0 z1 z2 z3 hne
 have HB4:=ae (aV HB3.out h4)
 have HO4:=ae (fH HO3.out h4)
 have HK4:=ae (fH HKv.out h4)
 have HKl:=ae (fun k (hk:(Value.slice ka (K i).length kc).ownBlock=some k)=>(show w.heap.size≤k∧k < w4.heap.size from⟨by have:=(HKv.out.lt k hk).1;omega,(HK4.out.lt k hk).2⟩))
 have HAw:=ae (HAd.out _ HB4.out (.slice va nal.length vc) (lY HO4.out (by omega)))
 clear h4 HAd HO3 HX3 HB3 HKv
 go_wp2_with fail
 refine HAw.out.mono ?_
 rintro e w5 ⟨sv5,fv5,rfl,hT5,hC5,hsv5,hfv5⟩
 have hw4:=HB4.out.size
 have hfvl:∀k,fv.ownBlock=some k→k < w.heap.size:=fun k hk=>(HT.out.free.lt k hk).2
 have HSv5:=ae (show sv5.ownBlock=(Value.slice (some ⟨g,0,none⟩) S.slots.length cap).ownBlock∨∃k,sv5.ownBlock=some k∧w.heap.size≤k from by
  rcases hsv5 with e | ⟨k,e,hk⟩
  ·exact .inl e
  ·exact .inr ⟨k,e,by omega⟩)
 have HK5:=ae (gW HK4.out (fun k hk=>hC5.block k (HKl.out k hk).2 (fun e=>by
  have:=(HKl.out k hk).1
  rcases e with e | e
  ·omega
  ·have e:g=k:=by simpa [Value.ownBlock] using e
   omega)))
 have HKn:=ae (fun k (hk:(Value.slice ka (K i).length kc).ownBlock=some k)=>(show w.heap.size≤k∧sv5.ownBlock≠some k from⟨(HKl.out k hk).1,fun e=>by
  rcases hsv5 with e2 | ⟨q,e2,hq⟩
  ·rw [e2] at e
   have e:g=k:=by simpa [Value.ownBlock] using e
   have:=(HKl.out k hk).1;omega
  ·rw [e2] at e;cases e;have:=(HKl.out _ hk).2;omega⟩))
 have HF5:=ae (show ∀k,yR R (S.add ⟨nk,nn,.slice va nal.length vc,nal,nda,0,0,0,0,0⟩) sv5 fv5 k→yR R S (.slice (some ⟨g,0,none⟩) S.slots.length cap) fv k∨w.heap.size≤k from fun k hk=>by
  rcases hk with rfl | hk | hk | ⟨x,m,hx,hne,hk⟩
  ·exact .inl (.inl rfl)
  ·rcases HSv5.out with e | ⟨q,e,hq⟩
   ·exact .inl (.inr (.inl (by rw [← e];exact hk)))
   ·rw [e] at hk;cases hk;exact .inr hq
  ·exact .inl (.inr (.inr (.inl (by rw [← hfv5];exact hk))))
  ·rw [(oL HFr.out hfn _).at_] at hx
   by_cases e:x=S.mV
   ·rw [aC e] at hx;cases hx
    exact .inr (HO4.out.lt k hk).1
   ·rw [ax e] at hx
    exact .inl (.inr (.inr (.inr ⟨x,m,hx,hne,hk⟩))))
 have HC5:=ae ((dU.of_below (F:=fun k=>k=R∨(Value.slice (some ⟨g,0,none⟩) S.slots.length cap).ownBlock=some k) HB4.out).trans hC5 (fun _ _ h=>h))
 have HT5:=ae hT5
 have HV5:=ae hfv5
 have HS5:=ae (HSt.out (.slice va nal.length vc) (fun _=>S.mV) rfl)
 clear hT5 hC5 hsv5 hfv5 HAw HSt HO4 HK4
 go_wp2_with fail
 go_loopw [38] (fun jv wr=>V5 B R S (.slice (some ⟨g,0,none⟩) S.slots.length cap) fv K d (f - 1) i w (.slice ka (K i).length kc) jv wr) (fun jv _=>(K i).length - iW jv)
 case atStart=>exact⟨0,_,_,sv5,fv5,K,_,_,aZ _,rfl,rfl,by rw [Rt];exact HS5.out,HT5.out,HK5.out,HC5.out,HSv5.out,HV5.out,HKn.out,HF5.out⟩
 case round =>
  obtain⟨j,B2,S1,sv1,fv1,K1,d1,r,hj,rfl,hri,hcp,hT1,hok,hC1,hsv1,hfv1,hkn,hF1⟩:=hrel
  by_cases hlt:j < (K i).length
  ·obtain⟨q,hq⟩:∃q,(K i)[j]? = some q:=⟨_,ay hlt⟩
   have hqm:=ah hq
   obtain⟨nq,hnq⟩:=HL.out.some hq
   have hdq:=HL.out.qc i q hqm
   have hlq:=HL.out.low q
   obtain⟨gv,cp2,hv,hcell⟩:=pO hok (x:=S.hd q) (by rw [bI,hq];rfl)
   cases hv
   have hqs:(S.at q).isSome=true:=by rw [hnq];rfl
   obtain⟨o1,o2,o3⟩:=hcp.old q hqs
   have hPl:=U9 K (f - 1) i (j+1)
   rw [MJ hq,aA,← HW.out] at hPl
   have hw1:dR K1 (f - 1) q=dR K (f - 1) q:=Df (f - 1) q (fun x hx=>(hcp.old x (mF HL.out (f - 1) q x hqs hx).2).2.1)
   have hfl1:=hcp.fl
   have hnl:=CQ (pJ K (f - 1) i j).length S.fl
   rw [← hfl1] at hnl
   have hs1:S1.slots.length≤S.slots.length+(pJ K (f - 1) i j).length:=hnl.2.1
   have hs2:S1.free.length≤S.free.length:=hnl.2.2
   have hal1:∀x m,S1.at x=some m→m.attrs.length≤1000:=fun x m hx=>by
    by_cases e:(S.at x).isSome=true
    ·rw [(hcp.old x e).1] at hx;exact HAl.out x m hx
    ·rcases hcp.Vl x (by rw [hx];rfl) with h | ⟨y,hy,rfl⟩
     ·exact absurd h e
     ·obtain⟨_,n1,n2,a1,a2,_,_,a3,_⟩:=hcp.new y hy
      rw [hx] at a2;cases a2
      rw [a3];exact HAl.out y n1 a1
   have hIH:=ih (by omega) B R S1 sv1 fv1 wr K1 d1 hT1 hcp.lk hcp.fr hcp.rZ q nq (by rw [o1];exact hnq) (by rw [o3];omega) hal1 (by omega) (by rw [hw1];omega)
   rw [hcp.hd] at hIH
   have HIH:=ae hIH
   have HCp:=ae hcp
   have HO:=ae hok
   have HC:=ae hC1
   have HF:=ae hF1
   have HSv:=ae hsv1
   have HFv:=ae hfv1
   have HKn1:=ae hkn
   have Hq:=ae hq
   have Hr:=ae hri
   have hRw:=hT1.blk.lt
   have hRz:=hT1.blk.free
   clear hIH hcp hT1 hok hC1 hF1 hsv1 hfv1 hkn o1 o2 o3 hal1 hq hnq hqm hqs hw1 hfl1 hnl hs1 hs2 hri
   go_wp2_with fail
   refine HIH.out.mono ?_
   rintro e w6 ⟨S2,sv2,fv2,K2,d2,r2,rfl,hT2,hcp2,hC2,hsv2,hfv2,hF2⟩
   obtain⟨d3,r3,hr3,hcp3⟩:=QB HL.out hsi (by omega) Hq.out HCp.out hcp2
   have hi2:i∈pJ K (f - 1) i j:=by simp [pJ]
   obtain⟨_,_,ni,_,hni,_⟩:=HCp.out.new i hi2
   have hni1:(S1.at (r i)).isSome=true:=by rw [hni];rfl
   obtain⟨np,hnp⟩:∃np,S2.at (r i)=some np:=⟨ni,by rw [(hcp2.old _ hni1).1];exact hni⟩
   have hq2:q∈dR K1 (f - 1) q:=by cases (f - 1) <;> simp [dR]
   obtain⟨hno,_,nc,_,hnc,_⟩:=hcp2.new q hq2
   have hpc:r i≠r2 q:=fun e=>by rw [e] at hni;rw [hno] at hni;cases hni
   obtain⟨g2,cap2,rfl⟩:=fO hT2 (by have:=iy hnp;omega)
   rw [Hr.out] at hcp3 hr3 hnp hpc
   have hLk:=D5 hT2 hcp2.lk S.mV (r2 q) np nc hnp hnc hpc hcp2.top (fun S3 hl=>(hcp3 S3 hl).lk)
   rw [hcp2.hd,hcp2.hd,HCp.out.hd,HCp.out.hd] at hLk
   have HLk:=ae hLk
   have HO2:=ae (gW HO.out (fun k hk=>hC2.block k (HO.out.lt k hk).2 (fun e=>by
    rcases e with e | e
    ·have:=(HKn1.out k hk).1;omega
    ·exact(HKn1.out k hk).2 e)))
   have HCp3:=ae hcp3
   have HC2:=ae hC2
   have HF2:=ae hF2
   have HSv2:=ae hsv2
   have HFv2:=ae hfv2
   have HR3:=ae hr3
   have hww:=HC.out.size
   have hKl2:∀k,(Value.slice (some ⟨gv,0,none⟩) (K i).length kc).ownBlock=some k→k < wr.heap.size:=fun k hk=>(HO.out.lt k hk).2
   have HG2:=ae (fun k (hk:(Value.slice (some ⟨gv,0,none⟩) (K i).length kc).ownBlock=some k)=>(show k≠g2 from fun e=>by
    rcases HSv2.out with e2 | ⟨z,e2,hz⟩
    ·exact(HKn1.out k hk).2 (by rw [← e2,e];rfl)
    ·have e2:g2=z:=by simpa [Value.ownBlock] using e2
     have:=hKl2 k hk;omega))
   rw [HCp.out.hd]
   clear hLk hT2 hcp2 hcp3 hC2 hF2 hsv2 hfv2 hr3 hno hnc hnp hni hpc
   go_wp2_with fail
   refine HLk.out.mono ?_
   rintro e w7 ⟨S3,hl3,rfl,hT3,hC3⟩
   have HS:=ae (show V5 B R S (.slice (some ⟨g,0,none⟩) S.slots.length cap) fv K d (f - 1) i w (.slice (some ⟨gv,0,none⟩) (K i).length kc) (.int .i64 ((j+1:Nat):Int)) w7 from by
    refine⟨j+1,B2,S3,.slice (some ⟨g2,0,none⟩) S3.slots.length cap2,fv2,_,d3,r3,by omega,rfl,HR3.out,HCp3.out S3 hl3,hT3,gW HO2.out (fun k hk=>hC3.block k (HO2.out.lt k hk).2 (HG2.out k hk)),?_,?_,HFv2.out.trans HFv.out,fun k hk=>⟨(HKn1.out k hk).1,fun e=>HG2.out k hk (by cases e;rfl)⟩,fun k hk=>?_⟩
    ·refine(HC.out.trans HC2.out (fun k hk e=>?_)).trans hC3 (fun k hk e=>?_)
     ·rcases e with e | e
      ·exact .inl e
      ·rcases HSv.out with e2 | ⟨z,e2,hz⟩
       ·exact .inr (by rw [← e2];exact e)
       ·rw [e2] at e;cases e;omega
     ·rcases HSv2.out with e2 | ⟨z,e2,hz⟩
      ·rcases HSv.out with e3 | ⟨z,e3,hz⟩
       ·exact .inr (by rw [← e3,← e2,e];rfl)
       ·rw [← e2] at e3
        have e3:g2=z:=by simpa [Value.ownBlock] using e3
        omega
      ·have e2:g2=z:=by simpa [Value.ownBlock] using e2
       omega
    ·rcases HSv2.out with e2 | ⟨z,e2,hz⟩
     ·rcases HSv.out with e3 | ⟨z,e3,hz⟩
      ·exact .inl (e2.trans e3)
      ·exact .inr ⟨z,e2.trans e3,hz⟩
     ·exact .inr ⟨z,e2,by omega⟩
    ·rcases HF2.out k (yQ (sv:=.slice (some ⟨g2,0,none⟩) S2.slots.length cap2) _ (uw _ _ _ _ _) hl3.at_ k hk) with h | h
     ·exact HF.out k h
     ·exact .inr (by omega))
   clear hl3 hT3 hC3
   go_wp2_with fail
   exact⟨HS.out,by simp only [iW];omega⟩
  ·obtain rfl:j=(K i).length:=by omega
   have HCp:=ae hcp
   have HT1:=ae hT1
   have HC:=ae hC1
   have HF:=ae hF1
   clear hcp hT1 hok hC1 hF1 hkn
   go_wp2_with fail
   go_ret
   refine⟨S1,sv1,fv1,K1,d1,r,by rw [hri];rfl,HT1.out,?_,HC.out,hsv1,hfv1,HF.out⟩
   rw [HW.out]
   exact Um HCp.out
theorem JE {B R:Nat}{S:Tr}{sv fv:Value}{w:World}{K:Nat→List Nat}{d:Nat→Nat}(h:fZ B R S sv fv w)(hL:Lk S K d)(hfr:∀i∈S.free,S.slots[i]? = some none)(hfn:S.free.Nodup)
  (i:Nat)(n:Nd)(hi:S.at i=some n)(hal:n.attrs.length≤1000)(hfl:S.free.length≤900000)(hcap:S.slots.length+1≤900000) :
  Calls Tryz.prog 70 #[.pointer (some ⟨R,0,none⟩),.int .i64 (S.hd i),.bool false] w (qN B R S sv fv K d i (kJ K i 0) [i] w):=by
 obtain⟨g,cap,rfl⟩:=fO h (by have:=iy hi;omega)
 have hsi:(S.at i).isSome=true:=by rw [hi];rfl
 have HT:=ae h
 have HL:=ae hL
 have hlow:=hL.low i
 have hpos:=hL.pos i hsi
 have hkl:=lX hL i
 have HN:=ae (wM h (S.hd i) (hd_ok hL hi).1 (fV hL hi) (dN hi) hal)
 have HK:=ae (fun wx (hb:Below w.heap.size w wx)=>pV (h.below hb) hL i n hi)
 obtain⟨nk,nn,nav,nal,nda,np,nf,nl,npv,nx⟩:=n
 have HAd:=ae (fun wx (hb:Below w.heap.size w wx) (v:Value) (hv:jA B wx v nal)=>add_any (h.below hb) hfr (by omega) (by omega) ⟨nk,nn,v,nal,nda,0,0,0,0,0⟩ hv)
 have HSt:=ae (fun(v:Value) (r:Nat→Nat) (hr:r i=S.mV)=>Gj (n0:=⟨nk,nn,v,nal,nda,0,0,0,0,0⟩) hL hfr hfn (by omega) hi rfl rfl rfl rfl rfl rfl rfl rfl rfl (KJ:=kJ K i 0) (by unfold kJ;simp) (r:=r) hr)
 have hBR:=h.base
 have hRl:=h.blk.lt
 have hgl:=(h.slots.lt g rfl).2
 have hzR:=h.blk.free
 have HFr:=ae hfr
 have HI:=ae hi
 clear h hL hi hfr
 go_enter Tryz.func70,Tryz.ntmps70
 go_wp2_with fail
 refine HN.out.mono ?_
 rintro e w1 ⟨v',rfl,ho1,hb1⟩
 obtain⟨va,vc,rfl⟩:=bP ho1
 have hx1:=dD.new w1 (jd ⟨nk,nn,.slice va nal.length vc,nal,nda,np,nf,nl,npv,nx⟩) 62
 have hb1':=hb1.alloc hb1.size (.cells (jd ⟨nk,nn,.slice va nal.length vc,nal,nda,np,nf,nl,npv,nx⟩).toArray 62)
 have HO1:=ae (fH ho1 ((ak w1.heap.size w1).alloc (au _) (.cells (jd ⟨nk,nn,.slice va nal.length vc,nal,nda,np,nf,nl,npv,nx⟩).toArray 62)))
 clear ho1
 simp only [jd,dA] at hx1 hb1' HO1 ⊢
 go_wp2_with fail
 generalize hr1:w1.heap.size=r1 at *
 generalize w1.alloc _=w2 at *
 refine(HK.out _ hb1').mono ?_
 rintro e w3 ⟨kv,rfl,hok,hb3⟩
 obtain⟨ka,kc,rfl⟩:=bP hok
 have HKv:=ae hok
 have hs2:=hb1'.size
 have HB3:=ae (aV hb1' hb3)
 have HX3:=ae (dD.below hx1 hb3)
 have HO3:=ae (fH HO1.out hb3)
 clear hx1 hb1 hb1' hb3 hok HO1 HN HK
 go_upto_region 3 with fail
 have hne:=gI w3
 have hgl3:=HX3.out.lt
 have xs:=fun(x:dS (jc w3))=>HX3.out.below x.h
 have z0:=fun x=>(xs x).cell 0
 have z1:=fun x=>(xs x).cell 1
 have z2:=fun x=>(xs x).cell 2
 have z3:=fun x=>(xs x).cell 3
 simp only [fQ,fP] at z0 z1 z2 z3
 clear xs
 refine oP (fun _=>undef) 12 (by kernel_rfl) (by kernel_rfl) ?_
 simp only [mD,mr,l9,lZ]
 repeat (first
  | (refine aN (by rfl) (by rfl) (fun K hK=>?_);go_big_quiet_step (fail);refine az ?_;refine hK.out _ ?_;clear hK K)
  | (refine aK (by rfl) ?_;simp only [Act.put,dL,dK,dJ]))
 refine eH ?_
 intro w4 h4
 clear z0 z1 z2 z3 hne
 have HB4:=ae (aV HB3.out h4)
 have HO4:=ae (fH HO3.out h4)
 have HK4:=ae (fH HKv.out h4)
 have HKl:=ae (fun k (hk:(Value.slice ka (K i).length kc).ownBlock=some k)=>(show w.heap.size≤k∧k < w4.heap.size from⟨by have:=(HKv.out.lt k hk).1;omega,(HK4.out.lt k hk).2⟩))
 have HAw:=ae (HAd.out _ HB4.out (.slice va nal.length vc) (lY HO4.out (by omega)))
 clear h4 HAd HO3 HX3 HB3 HKv
 go_wp2_with fail
 refine HAw.out.mono ?_
 rintro e w5 ⟨sv5,fv5,rfl,hT5,hC5,hsv5,hfv5⟩
 have hw4:=HB4.out.size
 have hfvl:∀k,fv.ownBlock=some k→k < w.heap.size:=fun k hk=>(HT.out.free.lt k hk).2
 have HSv5:=ae (show sv5.ownBlock=(Value.slice (some ⟨g,0,none⟩) S.slots.length cap).ownBlock∨∃k,sv5.ownBlock=some k∧w.heap.size≤k from by
  rcases hsv5 with e | ⟨k,e,hk⟩
  ·exact .inl e
  ·exact .inr ⟨k,e,by omega⟩)
 have HK5:=ae (gW HK4.out (fun k hk=>hC5.block k (HKl.out k hk).2 (fun e=>by
  have:=(HKl.out k hk).1
  rcases e with e | e
  ·omega
  ·have e:g=k:=by simpa [Value.ownBlock] using e
   omega)))
 have HKn:=ae (fun k (hk:(Value.slice ka (K i).length kc).ownBlock=some k)=>(show w.heap.size≤k∧sv5.ownBlock≠some k from⟨(HKl.out k hk).1,fun e=>by
  rcases hsv5 with e2 | ⟨q,e2,hq⟩
  ·rw [e2] at e
   have e:g=k:=by simpa [Value.ownBlock] using e
   have:=(HKl.out k hk).1;omega
  ·rw [e2] at e;cases e;have:=(HKl.out _ hk).2;omega⟩))
 have HF5:=ae (show ∀k,yR R (S.add ⟨nk,nn,.slice va nal.length vc,nal,nda,0,0,0,0,0⟩) sv5 fv5 k→yR R S (.slice (some ⟨g,0,none⟩) S.slots.length cap) fv k∨w.heap.size≤k from fun k hk=>by
  rcases hk with rfl | hk | hk | ⟨x,m,hx,hne,hk⟩
  ·exact .inl (.inl rfl)
  ·rcases HSv5.out with e | ⟨q,e,hq⟩
   ·exact .inl (.inr (.inl (by rw [← e];exact hk)))
   ·rw [e] at hk;cases hk;exact .inr hq
  ·exact .inl (.inr (.inr (.inl (by rw [← hfv5];exact hk))))
  ·rw [(oL HFr.out hfn _).at_] at hx
   by_cases e:x=S.mV
   ·rw [aC e] at hx;cases hx
    exact .inr (HO4.out.lt k hk).1
   ·rw [ax e] at hx
    exact .inl (.inr (.inr (.inr ⟨x,m,hx,hne,hk⟩))))
 have HC5:=ae ((dU.of_below (F:=fun k=>k=R∨(Value.slice (some ⟨g,0,none⟩) S.slots.length cap).ownBlock=some k) HB4.out).trans hC5 (fun _ _ h=>h))
 have HT5:=ae hT5
 have HV5:=ae hfv5
 have HS5:=ae (HSt.out (.slice va nal.length vc) (fun _=>S.mV) rfl)
 clear hT5 hC5 hsv5 hfv5 HAw HSt HO4 HK4
 go_wp2_with fail
 go_ret
 exact⟨_,sv5,fv5,K,_,_,rfl,HT5.out,HS5.out,HC5.out,HSv5.out,HV5.out,HF5.out⟩
theorem Eo:∀f,EC f
 | 0=>BH 0 (fun h=>absurd rfl h)
 | f+1=>BH (f+1) (fun _=>Eo f)
theorem QF {B R g cap:Nat}{S:Tr}{fv:Value}{w:World}{K d}(h:fZ B R S (.slice (some ⟨g,0,none⟩) S.slots.length cap) fv w)(hL:Lk S K d)(i:Nat)(n:Nd)(hi:S.at i=some n)(wa:World)(hb:Below w.heap.size w wa) :
  Calls Tryz.prog 68 #[.func (.func 73) #[] #[.pointer (some ⟨wa.heap.size,0,none⟩),.pointer (some ⟨wa.heap.size+1,0,none⟩)]] ((wa.alloc (.cells #[.pointer (some ⟨R,0,none⟩)] 29)).alloc (.cells #[.int .i64 (S.hd i)] 3)) fun e w'=>∃v,e=.returned v∧w'.ownsRow ((wa.alloc (.cells #[.pointer (some ⟨R,0,none⟩)] 29)).alloc (.cells #[.int .i64 (S.hd i)] 3)).heap.size 3 1 v (dR K (128 - d i) i).length (hC ((dR K (128 - d i) i).map S.hd))∧Below ((wa.alloc (.cells #[.pointer (some ⟨R,0,none⟩)] 29)).alloc (.cells #[.int .i64 (S.hd i)] 3)).heap.size ((wa.alloc (.cells #[.pointer (some ⟨R,0,none⟩)] 29)).alloc (.cells #[.int .i64 (S.hd i)] 3)) w':=by
 have hfew:=h.few
 have hlf:=hL.few
 have hsi:(S.at i).isSome=true:=by rw [hi];rfl
 have HLN:=oz hL (128 - d i) i hsi
 have k1:=dD.new wa [.pointer (some ⟨R,0,none⟩)] 29
 have k2:=dD.new (wa.alloc (.cells #[.pointer (some ⟨R,0,none⟩)] 29)) [.int .i64 (S.hd i)] 3
 have hs1:(wa.alloc (.cells #[.pointer (some ⟨R,0,none⟩)] 29)).heap.size=wa.heap.size+1:=by simp
 rw [hs1] at k2
 have hbb:Below wa.heap.size wa ((wa.alloc (.cells #[.pointer (some ⟨R,0,none⟩)] 29)).alloc (.cells #[.int .i64 (S.hd i)] 3)):=((ak _ _).alloc (au _) _).alloc (by simp) _
 have k1':=k1.alloc (.cells #[.int .i64 (S.hd i)] 3)
 have hs2:((wa.alloc (.cells #[.pointer (some ⟨R,0,none⟩)] 29)).alloc (.cells #[.int .i64 (S.hd i)] 3)).heap.size=wa.heap.size+2:=by simp
 have k1':dD ((wa.alloc (.cells #[.pointer (some ⟨R,0,none⟩)] 29)).alloc (.cells #[.int .i64 (S.hd i)] 3)) wa.heap.size [.pointer (some ⟨R,0,none⟩)] 29:=k1'
 have k2:dD ((wa.alloc (.cells #[.pointer (some ⟨R,0,none⟩)] 29)).alloc (.cells #[.int .i64 (S.hd i)] 3)) (wa.heap.size+1) [.int .i64 (S.hd i)] 3:=k2
 generalize (wa.alloc (.cells #[.pointer (some ⟨R,0,none⟩)] 29)).alloc (.cells #[.int .i64 (S.hd i)] 3)=w2 at *
 refine BI (enters_of Tryz.func73 (by kernel_rfl) rfl) (by omega) (fun m=>Dq (h.below hb) hL n hi ⟨?_,?_,?_,?_⟩ (k1'.alloc _) (k2.alloc _))
 ·simp;omega
 ·intro k cs t fr hk
  have hkl:=(aX.1 hk).1
  exact(((ak w2.heap.size w2).alloc (au _) _).block k (by omega)).trans ((hbb.block k hkl).trans hk)
 ·intro k hk
  have kb:=(dD.new w2 [.slice none 0 0] 31).cell 0
  simp only [List.getElem?_cons_zero] at kb
  unfold J3 at hk
  rw [kb] at hk
  cases hk
 ·simp;omega
theorem J9 {B R:Nat}{S:Tr}{sv fv:Value}{w:World}(h:fZ B R S sv fv w)(hd:Int)(hh:uY hd)(hk:S.ix hd=none)(deep:Bool) :
  Calls Tryz.prog 23 #[.pointer (some ⟨R,0,none⟩),.int .i64 hd,.bool deep] w fun e w'=>e=.returned (.tuple #[.int .i64 0,.int .i64 6])∧Below w.heap.size w w':=by
 have HA:=ae (qI h hd hh hk)
 clear h hk
 go_enter Tryz.func23,Tryz.ntmps23
 go_wp2_with fail
 refine HA.out.mono ?_
 rintro e w2 ⟨rfl,hb⟩
 go_wp2_with fail
 go_ret2
 exact⟨rfl,hb⟩
theorem NK {B R:Nat}{S:Tr}{sv fv:Value}{w:World}{K d}(h:fZ B R S sv fv w)(hL:Lk S K d)(i:Nat)(n:Nd)(hi:S.at i=some n)(hk:n.kind=1)(deep:Bool) :
  Calls Tryz.prog 23 #[.pointer (some ⟨R,0,none⟩),.int .i64 (S.hd i),.bool deep] w fun e w'=>e=.returned (.tuple #[.int .i64 0,.int .i64 10])∧Below w.heap.size w w':=by
 obtain⟨g,cap,rfl⟩:=fO h (by have:=iy hi;omega)
 have HA:=ae (bV h (S.hd i) (hd_ok hL hi).1 (fV hL hi))
 have HS:=ae (fun wx (hb:Below w.heap.size w wx)=>(show wx.cell? ⟨g,i*10+1,none⟩=some (.int .i64 n.kind) from dm (h.below hb) (dN hi) 1 (by omega)))
 clear h hi
 go_enter Tryz.func23,Tryz.ntmps23
 go_wp2_with fail
 refine HA.out.mono ?_
 rintro e w2 ⟨rfl,hb⟩
 have c1:=HS.out w2 hb
 rw [hk] at c1
 unfold na
 clear hk
 go_wp2_with fail
 go_ret2
 exact⟨rfl,hb⟩
theorem Ko {B R:Nat}{S:Tr}{sv fv:Value}{w:World}{K d}(h:fZ B R S sv fv w)(hL:Lk S K d)(hfr:∀i∈S.free,S.slots[i]? = some none)(hfn:S.free.Nodup)(i:Nat)(n:Nd)(hi:S.at i=some n)(hk:n.kind≠1)
  (hal:n.attrs.length≤1000)(hfl:S.free.length≤9000)(hcap:S.slots.length+1≤9000) :
  Calls Tryz.prog 23 #[.pointer (some ⟨R,0,none⟩),.int .i64 (S.hd i),.bool false] w fun e w'=>∃h',e=.returned (.tuple #[.int .i64 h',.int .i64 0])∧qN B R S sv fv K d i (kJ K i 0) [i] w (.returned (.int .i64 h')) w':=by
 obtain⟨g,cap,rfl⟩:=fO h (by have:=iy hi;omega)
 have HA:=ae (bV h (S.hd i) (hd_ok hL hi).1 (fV hL hi))
 have HS:=ae (fun wx (hb:Below w.heap.size w wx)=>(show wx.cell? ⟨g,i*10+1,none⟩=some (.int .i64 n.kind) from dm (h.below hb) (dN hi) 1 (by omega)))
 have HL:=ae (fun wx (hb:Below w.heap.size w wx)=>len_any (h.below hb))
 have HC:=ae (fun wx (hb:Below w.heap.size w wx)=>JE (h.below hb) hL hfr hfn i n hi hal (by omega) (by omega))
 have hlv:S.live≤S.slots.length:=gU _ _
 have hRl:=h.blk.lt
 have hzR:=h.blk.free
 clear h hi
 go_enter Tryz.func23,Tryz.ntmps23
 go_wp2_with fail
 refine HA.out.mono ?_
 rintro e w2 ⟨rfl,hb⟩
 have c1:=HS.out w2 hb
 have HL2:=ae (HL.out w2 hb)
 have HC2:=ae (HC.out w2 hb)
 have HB:=ae hb
 have hd1:decide (n.kind=1)=false:=by simp;exact hk
 have hd2:decide ((20000:Int) < (S.live:Int)+1)=false:=by simp;omega
 unfold na
 clear hb HL HC HS
 go_wp2_with fail
 refine HL2.out.mono ?_
 rintro e w3 ⟨rfl,hw⟩
 rw [hw]
 clear hw
 go_wp2_with fail
 refine HC2.out.mono ?_
 rintro e w4 ⟨S',sv',fv',K',d',r,rfl,hT,hcp,hc,hsv,hfv,hF⟩
 have HO:=ae (show qN B R S (.slice (some ⟨g,0,none⟩) S.slots.length cap) fv K d i (kJ K i 0) [i] w (.returned (.int .i64 (S.hd (r i)))) w4 from
  ⟨S',sv',fv',K',d',r,rfl,hT,hcp,(dU.of_below HB.out).trans hc (fun _ _ h=>h),hsv.imp id (fun⟨k,e,hk⟩=>⟨k,e,aQ HB.out.size hk⟩),hfv,fun k hk=>(hF k hk).imp id (fun h=>aQ HB.out.size h)⟩)
 clear hT hcp hc hsv hfv hF
 go_wp2_with fail
 go_ret2
 exact⟨_,rfl,HO.out⟩
theorem Kq {B R:Nat}{S:Tr}{sv fv:Value}{w:World}{K d}(h:fZ B R S sv fv w)(hL:Lk S K d)(hfr:∀i∈S.free,S.slots[i]? = some none)(hfn:S.free.Nodup)(i:Nat)(n:Nd)(hi:S.at i=some n)(hk:n.kind≠1)
  (hal:∀x m,S.at x=some m→m.attrs.length≤1000)(hfl:S.free.length≤9000)(hcap:S.slots.length+(dR K (128 - d i) i).length≤9000) :
  Calls Tryz.prog 23 #[.pointer (some ⟨R,0,none⟩),.int .i64 (S.hd i),.bool true] w fun e w'=>∃h',e=.returned (.tuple #[.int .i64 h',.int .i64 0])∧qN B R S sv fv K d i K (dR K (128 - d i) i) w (.returned (.int .i64 h')) w':=by
 obtain⟨g,cap,rfl⟩:=fO h (by have:=iy hi;omega)
 have HA:=ae (bV h (S.hd i) (hd_ok hL hi).1 (fV hL hi))
 have HS:=ae (fun wx (hb:Below w.heap.size w wx)=>(show wx.cell? ⟨g,i*10+1,none⟩=some (.int .i64 n.kind) from dm (h.below hb) (dN hi) 1 (by omega)))
 have HL:=ae (fun wx (hb:Below w.heap.size w wx)=>len_any (h.below hb))
 have HC:=ae (fun wx (hb:Below w.heap.size w wx)=>Eo (128 - d i) B R S _ _ wx K d (h.below hb) hL hfr hfn i n hi rfl hal (by omega) (by omega))
 have HCl:=ae (QF h hL i n hi)
 have hlv:S.live≤S.slots.length:=gU _ _
 have hRl:=h.blk.lt
 have hzR:=h.blk.free
 clear h hi
 generalize hWl:dR K (128 - d i) i=l at *
 go_enter Tryz.func23,Tryz.ntmps23
 go_wp2_with fail
 refine HA.out.mono ?_
 rintro e w2 ⟨rfl,hb⟩
 have c1:=HS.out w2 hb
 have HC2:=ae (HCl.out w2 hb)
 have HB:=ae hb
 have hd1:decide (n.kind=1)=false:=by simp;exact hk
 have hd2:decide ((20000:Int) < (S.live:Int)+(l.length:Int))=false:=by simp;omega
 unfold na
 clear hb HCl HS
 go_wp2_with fail
 refine(walk_any R (S.hd i) w2).mono ?_
 rintro e w3 ⟨rfl,hw3⟩
 rw [hw3]
 have hb23:Below w2.heap.size w2 ((w2.alloc (.cells #[.pointer (some ⟨R,0,none⟩)] 29)).alloc (.cells #[.int .i64 (S.hd i)] 3)):=((ak _ _).alloc (au _) _).alloc (by simp) _
 have HB3:=ae (aV HB.out hb23)
 clear hw3 hb23 c1
 go_wp2_with fail
 refine HC2.out.mono ?_
 rintro e w4 ⟨v,rfl,ho4,hb4⟩
 obtain⟨va,vc,rfl⟩:=bP ho4
 have HB4:=ae (aV HB3.out hb4)
 have HL4:=ae (HL.out w4 HB4.out)
 have HC4:=ae (HC.out w4 HB4.out)
 have hsz4:=HB4.out.size
 clear ho4 hb4 HC2 HL HC
 go_wp2_with fail
 refine HL4.out.mono ?_
 rintro e w5 ⟨rfl,hw⟩
 rw [hw]
 clear hw
 go_wp2_with fail
 refine HC4.out.mono ?_
 rintro e w6 ⟨S',sv',fv',K',d',r,rfl,hT,hcp,hc,hsv,hfv,hF⟩
 have HO:=ae (show qN B R S (.slice (some ⟨g,0,none⟩) S.slots.length cap) fv K d i K l w (.returned (.int .i64 (S.hd (r i)))) w6 from
  ⟨S',sv',fv',K',d',r,rfl,hT,hcp,(dU.of_below HB4.out).trans hc (fun _ _ h=>h),hsv.imp id (fun⟨k,e,hk⟩=>⟨k,e,aQ HB4.out.size hk⟩),hfv,fun k hk=>(hF k hk).imp id (fun h=>aQ HB4.out.size h)⟩)
 clear hT hcp hc hsv hfv hF
 go_wp2_with fail
 go_ret2
 exact⟨_,rfl,HO.out⟩
theorem yj {f g:Nat→List Nat}:∀{l:List Nat},(∀k∈l,f k=g k)→l.flatMap f=l.flatMap g
 | [],_=>rfl
 | k :: l,h=>by rw [eG,eG,h k (by simp),yj (fun q hq=>h q (by simp [hq]))]
theorem IC {S:Tr}{K:Nat→List Nat}{d:Nat→Nat}(h:Lk S K d):∀(f f' i:Nat),128 - d i≤f→f≤f'→dR K f' i=dR K f i
 | 0,f',i,h1,_=>by
  have hK:K i=[]:=by
   cases e:K i with
   | nil=>rfl
   | cons k t =>
    have h2:=h.qc i k (by rw [e];simp)
    have h3:=h.low k
    omega
  cases f' with
  | zero=>rfl
  | succ f'=>show i :: (K i).flatMap _=[i];rw [hK];rfl
 | f+1,f',i,h1,h2=>by
  obtain⟨f',rfl⟩:∃q,f'=q+1:=⟨f' - 1,by omega⟩
  show i :: (K i).flatMap _=i :: (K i).flatMap _
  rw [yj (fun k hk=>IC h f f' k (by have:=h.qc i k hk;omega) (by omega))]
theorem O4 {K' KJ:Nat→List Nat}{P:List Nat}{r:Nat→Nat}(hk:∀x∈P,K' (r x)=(KJ x).map r)(hc:∀x∈P,∀k∈KJ x,k∈P):∀(f y:Nat),y∈P→dR K' f (r y)=(dR KJ f y).map r
 | 0,y,_=>rfl
 | f+1,y,hy=>by
  show r y :: (K' (r y)).flatMap _=(y :: (KJ y).flatMap _).map r
  rw [hk y hy,List.flatMap_map,fE,List.map_flatMap,yj fun k hk'=>O4 hk hc f k (hc y hy k hk')]
theorem Ql {S S':Tr}{M L:List MN}{σ : Nat→Nat}{sl:List Nat}(hb:S'.b=S.b)(hs:S'.s=S.s)(hl:sl.length=L.length)(hg:∀m∈L,m.gone=false) :
  iZ S' (yT M.length σ sl) (M ++ L)=iZ S σ M ++ sl.map S'.hd:=by
 apply gu
 intro i
 by_cases hi:i < M.length
 ·rw [di (by rw [jJ];exact hi),uz (by rw [aA];omega),uz hi,x9 hi]
  have:S'.hd (yT M.length σ sl i)=S.hd (σ i):=by unfold yT;rw [aC hi];unfold Tr.hd;rw [hb,hs]
  rw [this]
 ·rw [bZ (by rw [jJ];omega),jJ,bI]
  by_cases h2:i - M.length < L.length
  ·rw [uz (by rw [aA];omega),yf (by omega)]
   have:(lv L (i - M.length)).isSome=true:=by rw [DX (ay h2) (hg _ (List.getElem_mem h2))];rfl
   rw [aC this]
   unfold yT
   rw [ax hi,dV,ay (show i - M.length < sl.length by omega)];rfl
  ·rw [bQ (by rw [jJ,aA];omega),bQ (by omega)];rfl
section
variable {ex : Prop} {E : Nat → Prop} {c x : Nat} {B : Nat} {w0 : World} {l : List Ob} {g R Q : Nat} {S S' : Tr} {K K' : Nat → List Nat} {d d' : Nat → Nat} {X X' : List MX} {σ : Nat → Nat} {o : ou}
theorem Gh (T:CX ex E c x S K d (ms X) σ)(hE:∀y,E y→(S.at y).isSome=true)(hk:o.k % 10=8){ma:MN}(ha:lv (ms X) (o.iA (ms X).length)=some ma)
  {PM:List Nat}{KM KJ:Nat→List Nat}{r:Nat→Nat}(hP:∀y∈PM,∃my,lv (ms X) y=some my)(hnd:PM.Nodup)(haP:o.iA (ms X).length∈PM)
  (hcl:∀y∈PM,∀k∈KM y,k∈PM∧k≠o.iA (ms X).length∧∃mk,lv (ms X) k=some mk∧mk.par=some y)(hpar:∀y∈PM,y≠o.iA (ms X).length→∃p∈PM,(KX (ms X) y).par=some p∧y∈KM p)
  (C:Cm S K d S' K' d' (σ (o.iA (ms X).length)) KJ (PM.map σ) r)(hKJ:∀y∈PM,KJ (σ y)=(KM y).map σ)(hKK:∀y,∀k∈KJ y,k∈K y)(hz:∀y∈PM.map σ,y≠0)
  (hwl:∀f,128 - d (σ (o.iA (ms X).length))≤f→dR KJ f (σ (o.iA (ms X).length))=PM.map σ)(hl:(ms X).length+PM.length≤10000)
  (hms:ms X'=ms X ++ PM.map (IA (ms X) (vM PM (ms X).length) KM (o.iA (ms X).length)))(hm:L8 (ms X) (fun i=>d (σ i)) (decide (0 < o.n)) (o.iA (ms X).length) ma (ms X') 0) :
  (dR K' (128 - d' (r (σ (o.iA (ms X).length)))) (r (σ (o.iA (ms X).length)))).length=PM.length ∧
   ∀w hv sv fv nv,All B w0 (kK g R Q hv (iZ S σ (ms X) ++ (dR K' (128 - d' (r (σ (o.iA (ms X).length)))) (r (σ (o.iA (ms X).length)))).map S'.hd) S' sv fv nv X' ++ l) w→E8 ex E c x B w0 l g R Q S K d (ms X) σ o (.returned (.tuple #[.slice none 0 0,.bool true])) w:=by
 generalize hA:o.iA (ms X).length=a at *
 obtain⟨na,hna,_⟩:=T.tw.node a ma ha
 have hL:=T.ok.lk
 have hcl':∀y∈PM.map σ,∀k∈KJ y,k∈PM.map σ:=fun y hy k hk=>by
  obtain⟨z,hz,rfl⟩:=bC.1 hy
  rw [hKJ z hz] at hk
  obtain⟨q,hq,rfl⟩:=bC.1 hk
  exact bC.2 ⟨q,(hcl z hz q hq).1,rfl⟩
 have hd1:1≤d (σ a):=by
  rcases hL.NY (σ a) with ⟨q,hq⟩ | ht
  ·have:=hL.qc q _ hq;omega
  ·have:=hL.one (σ a) (by rw [hna];rfl) ht;omega
 have hdn:=C.dn (σ a) (bC.2 ⟨a,haP,rfl⟩)
 have hsl:Jf PM.length S.fl=(PM.map σ).map r:=by
  have:=C.sl
  rw [bM] at this
  exact this.symm
 have hw:dR K' (128 - d' (r (σ a))) (r (σ a))=Jf PM.length S.fl:=by
  rw [O4 C.kn hcl' _ _ (bC.2 ⟨a,haP,rfl⟩),hwl _ (by omega),hsl]
 rw [hw]
 have hXl:(ms X').length=(ms X).length+PM.length:=by rw [hms,aA,bM]
 have hfl:=C.fl
 rw [bM] at hfl
 refine⟨G5 _ _,fun w hv sv fv nv hAll=>?_⟩
 have hTo:=T.ok.copied C (fun y hy k hk=>⟨hcl' y hy k hk,hKK y k hk⟩) hz
 have hTw:=T.tw.copied hL hP hnd hcl hpar C hKJ (fun y hy he=>by
  have:=hE _ he
  rw [(C.new (σ y) (bC.2 ⟨y,hy,rfl⟩)).1] at this
  cases this) hl
 rw [← hms] at hTw
 have hHs:=Ql (S:=S) (S':=S') (M:=ms X) (σ:=σ) (L:=PM.map (IA (ms X) (vM PM (ms X).length) KM a)) (sl:=Jf PM.length S.fl) C.eb C.es (by rw [G5,bM]) (fun m hm=>by
  obtain⟨y,_,rfl⟩:=bC.1 hm;rfl)
 rw [← hms] at hHs
 rw [← hHs] at hAll
 have hS2:S'.slots.length≤S.slots.length+PM.length:=by
  have h1:=CQ PM.length S.fl
  rw [← hfl] at h1
  exact h1.2.1
 have hno:∀y∈PM.map σ,¬E (r y):=fun y hy he=>by
  have:=hE _ he
  rw [(C.new y hy).1] at this
  cases this
 refine⟨.slice none 0 0,true,S',K',d',X',_,hv,sv,fv,nv,[],[],[],rfl,hAll.nil _ _,⟨hTo.mono (ed c),hTw.mono (ed c),fun p k hk=>?_,?_⟩,fun _=>⟨rfl,rfl⟩,C.eb,C.es,fun y hy=>?_,.cpy ma _ 0 hk (by rw [hA];exact ha) (by rw [hA];exact hm),⟨fun i mi hi=>?_,?_⟩,.inl ⟨by omega,rfl⟩⟩
 ·have hp:=(C.lk.kin p k hk).1
  by_cases e:(S.at p).isSome=true
  ·rw [(C.old p e).2.1] at hk
   exact T.cl p k hk
  ·obtain⟨y,hy,rfl,hk2⟩:=C.two hp e
   rw [hk2] at hk
   obtain⟨q,hq,rfl⟩:=bC.1 hk
   exact⟨fun h=>absurd h (hno y hy),fun h=>absurd h (hno q (hcl' y hy q hq))⟩
 ·have:=T.lim
  rw [hXl];omega
 ·obtain⟨h1,h2,_⟩:=C.old y (hE y hy)
  exact⟨h1,h2⟩
 ·rw [hXl,rU]
 ·rw [hXl,rU,hfl]
  show _=((EI PM.length S.fl).1 ++ [],(EI PM.length S.fl).2)
  rw [aT]
theorem Sv (T:CX ex E c x S K d (ms X) σ)(hE:∀y,E y→(S.at y).isSome=true)(hk:o.k % 10=8){ma:MN}(ha:lv (ms X) (o.iA (ms X).length)=some ma)(h0:o.iA (ms X).length≠0)(hn:decide (0 < o.n)=true){r:Nat→Nat}
  (C:Cm S K d S' K' d' (σ (o.iA (ms X).length)) K (dR K (128 - d (σ (o.iA (ms X).length))) (σ (o.iA (ms X).length))) r)(hl:(ms X).length+S.slots.length≤10000)
  (hms:ms X'=ms X ++ (dR (kM (ms X)) (128 - d (σ (o.iA (ms X).length))) (o.iA (ms X).length)).map (OW (ms X) (vM (dR (kM (ms X)) (128 - d (σ (o.iA (ms X).length))) (o.iA (ms X).length)) (ms X).length) (o.iA (ms X).length) none)) :
  X'.length=X.length+(dR K' (128 - d' (r (σ (o.iA (ms X).length)))) (r (σ (o.iA (ms X).length)))).length ∧
   ∀w hv sv fv nv,All B w0 (kK g R Q hv (iZ S σ (ms X) ++ (dR K' (128 - d' (r (σ (o.iA (ms X).length)))) (r (σ (o.iA (ms X).length)))).map S'.hd) S' sv fv nv X' ++ l) w→E8 ex E c x B w0 l g R Q S K d (ms X) σ o (.returned (.tuple #[.slice none 0 0,.bool true])) w:=by
 have hL:=T.ok.lk
 obtain⟨na,hna,_⟩:=T.tw.node _ ma ha
 have hsa:(S.at (σ (o.iA (ms X).length))).isSome=true:=by rw [hna];rfl
 have hW:=T.tw.dR (128 - d (σ (o.iA (ms X).length))) _ ma ha
 have hlive:=T.tw.qO (128 - d (σ (o.iA (ms X).length))) _ ma ha
 have hndK:=pg hL (128 - d (σ (o.iA (ms X).length))) _ hsa
 have hnd:(dR (kM (ms X)) (128 - d (σ (o.iA (ms X).length))) (o.iA (ms X).length)).Nodup:=by
  rw [hW] at hndK
  exact(XF.1 hndK).imp (fun h e=>h (by rw [e]))
 have mem:∀y,(S.at y).isSome=true→(y∈dR K (128 - d (σ (o.iA (ms X).length))) (σ (o.iA (ms X).length))↔lH S d (σ (o.iA (ms X).length)) y=true):=fun y hy=>⟨fun h=>(mF hL _ _ y hsa h).1,fun h=>Gz hL (d y) _ y rfl hy hsa h⟩
 have memM:∀y my,lv (ms X) y=some my→(y∈dR (kM (ms X)) (128 - d (σ (o.iA (ms X).length))) (o.iA (ms X).length)↔lH S d (σ (o.iA (ms X).length)) (σ y)=true):=fun y my hy=>by
  obtain⟨ny,hny,_⟩:=T.tw.node y my hy
  rw [← mem _ (by rw [hny];rfl),hW]
  refine⟨fun h=>bC.2 ⟨y,h,rfl⟩,fun h=>?_⟩
  obtain⟨z,hz,e⟩:=bC.1 h
  obtain⟨mz,hmz⟩:=hlive z hz
  rw [← T.tw.inj z y mz my hmz hy e];exact hz
 have hlen:(dR (kM (ms X)) (128 - d (σ (o.iA (ms X).length))) (o.iA (ms X).length)).length≤S.slots.length:=T.tw.oz hL _ ha
 rw [hW] at C
 have hcp:(dR (kM (ms X)) (128 - d (σ (o.iA (ms X).length))) (o.iA (ms X).length)).map (OW (ms X) (vM (dR (kM (ms X)) (128 - d (σ (o.iA (ms X).length))) (o.iA (ms X).length)) (ms X).length) (o.iA (ms X).length) none)=(dR (kM (ms X)) (128 - d (σ (o.iA (ms X).length))) (o.iA (ms X).length)).map (IA (ms X) (vM (dR (kM (ms X)) (128 - d (σ (o.iA (ms X).length))) (o.iA (ms X).length)) (ms X).length) (kM (ms X)) (o.iA (ms X).length)):=by
  refine fM fun y hy=>?_
  obtain⟨my,hmy⟩:=hlive y hy
  unfold OW IA
  rw [qQ hmy,vP hmy]
 have hmc:L8 (ms X) (fun i=>d (σ i)) (decide (0 < o.n)) (o.iA (ms X).length) ma (ms X') 0:=by rw [hms];exact .deep h0 hn
 rw [hcp] at hms
 have hlenX:(ms X').length=(ms X).length+(dR (kM (ms X)) (128 - d (σ (o.iA (ms X).length))) (o.iA (ms X).length)).length:=by rw [hms,aA,bM]
 have key:=Gh (B:=B) (w0:=w0) (l:=l) (g:=g) (R:=R) (Q:=Q) T hE hk ha hlive hnd ?_ (fun y hy k hky=>?_) (fun y hy hya=>?_) C (fun y hy=>?_) (fun y k hky=>hky) (fun y hy=>?_) (fun f hf=>?_) (by omega) hms hmc
 ·obtain⟨k1,k2⟩:=key
  refine⟨?_,k2⟩
  have e1:=aY X
  have e2:=aY X'
  rw [k1];omega
 ·rw [memM _ ma ha];exact sub_self hL hsa
 ·obtain⟨my,hmy⟩:=hlive y hy
  rw [qQ hmy] at hky
  obtain⟨mk,h1,h2⟩:=T.tw.kid y my k hmy hky
  have hkk:σ k∈K (σ y):=by rw [T.tw.kids y my hmy];exact bC.2 ⟨k,hky,rfl⟩
  have hy2:=(memM y my hmy).1 hy
  have hys:(S.at (σ y)).isSome=true:=(hL.kin _ _ hkk).1
  refine⟨(memM k mk h1).2 (by rw [mG hL hkk,hy2,Bool.or_true]),fun e=>?_,mk,h1,h2⟩
  have hle:=sub_le hL hys hy2
  have:=hL.qc _ _ hkk
  rw [e] at this
  omega
 ·obtain⟨my,hmy⟩:=hlive y hy
  have hy2:=(memM y my hmy).1 hy
  obtain⟨ny,hny,_⟩:=T.tw.node y my hmy
  have hys:(S.at (σ y)).isSome=true:=by rw [hny];rfl
  have hne:(σ (o.iA (ms X).length) == σ y)=false:=by
   rw [eY]
   exact fun e=>hya (T.tw.inj _ _ ma my ha hmy e).symm
  cases hp:my.par with
  | none =>
   have ht:=T.tw.top y my hmy hp
   rw [nM hL hys ht,hne] at hy2
   cases hy2
  | some p =>
   obtain⟨mp,h1,h2⟩:=T.tw.par y my p hmy hp
   have hkk:σ y∈K (σ p):=by rw [T.tw.kids p mp h1];exact bC.2 ⟨y,h2,rfl⟩
   rw [mG hL hkk,hne,iE] at hy2
   exact⟨p,(memM p mp h1).2 hy2,by rw [vP hmy];exact hp,by rw [qQ h1];exact h2⟩
 ·obtain⟨my,hmy⟩:=hlive y hy
  rw [T.tw.kids y my hmy,qQ hmy]
 ·rintro rfl
  rw [← hW,mem 0 (by obtain⟨n,hn,_⟩:=T.ok.doc;rw [hn];rfl),nM hL (by obtain⟨n,hn,_⟩:=T.ok.doc;rw [hn];rfl) T.ok.vN] at hy
  obtain⟨hz,m0,hm0⟩:=T.tw.zero
  exact h0 (T.tw.inj _ 0 ma m0 ha hm0 (by rw [hz];simpa using hy))
 ·rw [← hW,IC hL _ f _ (au _) hf]
theorem Su (T:CX ex E c x S K d (ms X) σ)(hE:∀y,E y→(S.at y).isSome=true)(hk:o.k % 10=8){ma:MN}(ha:lv (ms X) (o.iA (ms X).length)=some ma)(h0:o.iA (ms X).length≠0)(hn:decide (0 < o.n)=false){r:Nat→Nat}
  (C:Cm S K d S' K' d' (σ (o.iA (ms X).length)) (kJ K (σ (o.iA (ms X).length)) 0) [σ (o.iA (ms X).length)] r)(hl:(ms X).length+1≤10000)
  (hms:ms X'=ms X ++ [⟨ma.kind,ma.name,ma.attrs,ma.data,none,[],false⟩]) :
  X'.length=X.length+(dR K' (128 - d' (r (σ (o.iA (ms X).length)))) (r (σ (o.iA (ms X).length)))).length ∧
   ∀w hv sv fv nv,All B w0 (kK g R Q hv (iZ S σ (ms X) ++ (dR K' (128 - d' (r (σ (o.iA (ms X).length)))) (r (σ (o.iA (ms X).length)))).map S'.hd) S' sv fv nv X' ++ l) w→E8 ex E c x B w0 l g R Q S K d (ms X) σ o (.returned (.tuple #[.slice none 0 0,.bool true])) w:=by
 have hL:=T.ok.lk
 have hmc:L8 (ms X) (fun i=>d (σ i)) (decide (0 < o.n)) (o.iA (ms X).length) ma (ms X') 0:=by rw [hms];exact .flat h0 hn
 have hlenX:(ms X').length=(ms X).length+1:=by rw [hms,aA,List.length_singleton]
 have hJ0:kJ K (σ (o.iA (ms X).length)) 0 (σ (o.iA (ms X).length))=[]:=by unfold kJ;rw [aC rfl];rfl
 have key:=Gh (PM:=[o.iA (ms X).length]) (KM:=fun _=>[]) (B:=B) (w0:=w0) (l:=l) (g:=g) (R:=R) (Q:=Q) T hE hk ha (fun y hy=>?_) (by simp) (by simp) (fun y hy k hky=>by cases hky) (fun y hy hya=>absurd (by simpa using hy) hya) C (fun y hy=>?_) (fun y k hky=>?_) (fun y hy=>?_) (fun f hf=>?_) hl ?_ hmc
 ·obtain⟨k1,k2⟩:=key
  refine⟨?_,k2⟩
  have e1:=aY X
  have e2:=aY X'
  rw [k1,List.length_singleton];omega
 ·have:y=o.iA (ms X).length:=by simpa using hy
  subst this
  exact⟨ma,ha⟩
 ·have:y=o.iA (ms X).length:=by simpa using hy
  subst this
  exact hJ0
 ·unfold kJ at hky
  split at hky
  ·simp at hky
  ·exact hky
 ·have:y=σ (o.iA (ms X).length):=by simpa using hy
  subst this
  intro e
  obtain⟨hz,m0,hm0⟩:=T.tw.zero
  exact h0 (T.tw.inj _ 0 ma m0 ha hm0 (by rw [hz];exact e))
 ·cases f with
  | zero=>rfl
  | succ f=>show _ :: (kJ K _ 0 _).flatMap _=_;rw [hJ0];rfl
 ·rw [hms]
  unfold IA
  rw [List.map_singleton,vP ha]
  simp
end
end Go.Proofs.YtfelmdkeaacfeaaGreatDoor.W
end
