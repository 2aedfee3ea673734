/- Texts joined: Unl LinkM Cnt Dp. -/
import Derived.Test.YtfelmdkeaacfeaaGreatDoorTB1
import Derived.Test.YtfelmdkeaacfeaaGreatDoorTB4
import Derived.Test.YtfelmdkeaacfeaaGreatDoorTB5
import Derived.Test.YtfelmdkeaacfeaaGreatDoorTB3
set_option maxRecDepth 100000
set_option maxHeartbeats 40000000
set_option linter.unusedVariables false
set_option linter.unusedSimpArgs false
section
namespace Go.Proofs.YtfelmdkeaacfeaaGreatDoor.W
open Go.RowKit
def BG (S:Tr)(l:List Nat)(p j x:Nat)(n:Nd):Nd :=
 { n with
  next:=if pv l j=some x then hO S l[j+1]? else n.next
  first:=if x=p∧j=0 then hO S l[j+1]? else n.first }
def BF (S:Tr)(l:List Nat)(p j x:Nat)(n:Nd):Nd :=
 { n with
  prev:=if l[j+1]? = some x then hO S (pv l j) else n.prev
  last:=if x=p∧j+1=l.length then hO S (pv l j) else n.last }
theorem GR {w:World}{r:Nat}{G:World→Prop}(h:dD w r (recC 0 0 0 0 0 0 [] [] false 0 0) 41)(a b c d e f:Int)(n o:ByteArray)(x:Bool)(y z:Int)
  (hG:∀w',dD w' r [.int .i64 a,.int .i64 b,.int .i64 c,.int .i64 d,.int .i64 e,.int .i64 f,.string n,.string o,.bool x,.int .i64 y,.int .i64 z] 41→dU (fun k=>k=r) w w'→G w') :
  G (((((((((((w.setCell ⟨r,0,none⟩ (.int .i64 a)).setCell ⟨r,1,none⟩ (.int .i64 b)).setCell ⟨r,2,none⟩ (.int .i64 c)).setCell ⟨r,3,none⟩ (.int .i64 d)).setCell ⟨r,4,none⟩ (.int .i64 e)).setCell ⟨r,5,none⟩ (.int .i64 f)).setCell ⟨r,6,none⟩ (.string n)).setCell ⟨r,7,none⟩ (.string o)).setCell ⟨r,8,none⟩ (.bool x)).setCell ⟨r,9,none⟩ (.int .i64 y)).setCell ⟨r,10,none⟩ (.int .i64 z)) :=
 hG _ (CO h a b c d e f n o x y z) (wL w r _ _ _ _ _ _ _ _ _ _ _)
theorem Du {B R g cap:Nat}{S:Tr}{fv:Value}{w:World}{K:Nat→List Nat}{d:Nat→Nat}(h:fZ B R S (.slice (some ⟨g,0,none⟩) S.slots.length cap) fv w)(hL:Lk S K d)(p j c:Nat)(nc:Nd)(hj:(K p)[j]? = some c)(hc:S.at c=some nc) :
  Calls Tryz.prog 53 #[.pointer (some ⟨R,0,none⟩),.int .i64 (S.hd c)] w fun e w'=>∃S',yI S S' (K p) p j c∧e=.returned (.agg (recC 2 (S.hd p) (S.hd c) nc.prev nc.next j [] [] false 0 0).toArray) ∧
   fZ B R S' (.slice (some ⟨g,0,none⟩) S'.slots.length cap) fv w'∧dU (fun k=>k=g) w w':=by
 obtain⟨hpar,hprev0,hnext⟩:=hL.kid p j c nc hj hc
 have hprev:nc.prev=hO S (pv (K p) j):=hprev0
 clear hprev0
 have hpm:=ah hj
 have hpc:p≠c:=fun e=>hL.self (e ▸ hpm:p∈K p)
 obtain⟨np,hp⟩:=aB.1 (hL.kin p c hpm).1
 have HP:=ae (fun wx (hb:Below w.heap.size w wx)=>bV (h.below hb) (S.hd p) (hd_ok hL hp).1 (fV hL hp))
 have HC:=ae (fun wx (hb:Below w.heap.size w wx)=>bV (h.below hb) (S.hd c) (hd_ok hL hc).1 (fV hL hc))
 have HI:=ae (fun wx (hb:Below w.heap.size w wx)=>sQ (h.below hb) hL p j c hj)
 have HT:=ae h
 have hg:=(h.slots.lt g rfl).2
 have hbl:Below w.heap.size w (w.alloc (.cells #[.int .i64 0,.int .i64 0,.int .i64 0,.int .i64 0,.int .i64 0,.int .i64 0,.string ⟨#[]⟩,.string ⟨#[]⟩,.bool false,.int .i64 0,.int .i64 0] 41)):=(ak _ _).alloc (au _) _
 have k0:=dD.new w (recC 0 0 0 0 0 0 [] [] false 0 0) 41
 clear h
 go_enter Tryz.func53,Tryz.ntmps53
 go_wp2_with fail
 refine(HC.out _ hbl).mono ?_
 rintro e w2 ⟨rfl,hb2⟩
 have hB2:=hbl.trans (hb2.mono hbl.size)
 have HR2:=ae (k0.below hb2)
 have hT2:=HT.out.below hB2
 have c4:=bK hT2 hc 4 (by omega)
 have c7:=bK hT2 hc 7 (by omega)
 have c8:=bK hT2 hc 8 (by omega)
 simp only [jd,fQ,fP] at c4 c7 c8
 rw [hpar] at c4
 have hpar':=ae hpar
 have HPv:=ae hprev
 have HNx:=ae hnext
 clear hpar hprev hnext
 have g2:g < w2.heap.size:=aO hg hB2.size
 have HT2:=ae hT2
 clear hT2
 go_upto_region 2 with fail
 have hcell:∀(x:dS (lC w2.heap.size w2 (fun _=>[]))) (i:Nat),x.w.cell? ⟨g,i,none⟩=w2.cell? ⟨g,i,none⟩:=fun x i=>by
  obtain⟨k,X,hx⟩:=x.h
  exact(oK hx.below).1 _ _ g2
 have x4:∀x:dS (lC w2.heap.size w2 (fun _=>[])),x.w.cell? ⟨g,c*10+1+4,none⟩=some (.int .i64 (S.hd p)):=fun x=>(hcell x _).trans c4
 have x7:∀x:dS (lC w2.heap.size w2 (fun _=>[])),x.w.cell? ⟨g,c*10+1+7,none⟩=some (.int .i64 nc.prev):=fun x=>(hcell x _).trans c7
 have x8:∀x:dS (lC w2.heap.size w2 (fun _=>[])),x.w.cell? ⟨g,c*10+1+8,none⟩=some (.int .i64 nc.next):=fun x=>(hcell x _).trans c8
 have hne:Nonempty (dS (lC w2.heap.size w2 (fun _=>[]))):=⟨⟨_,0,[],All.start w2⟩⟩
 refine yX w2.heap.size w2 (fun _=>[]) (fun _=>.int .i64 (j:Int)) (fun _ r=>.pointer (some ⟨r,0,none⟩)) (fun _=>[.int .i64 0,.int .i64 0,.int .i64 0,.int .i64 0,.int .i64 0,.int .i64 0,.string ⟨#[]⟩,.string ⟨#[]⟩,.bool false,.int .i64 0,.int .i64 0]) (fun _=>41) 18 (by kernel_rfl) (by kernel_rfl) (All.start w2) ?_
 simp only [mD,mr,l9,lZ]
 repeat (first
  | (refine aN (by rfl) (by rfl) (fun K hK=>?_);go_big_quiet_step (fail);refine az ?_;refine hK.out _ ?_;clear hK K)
  | (refine aK (by rfl) ?_;simp only [Act.put,dL,dK,dJ]))
 refine dM (.int .i64 (j:Int)) rfl (by rfl) (by rfl) (fun w=>by go_simp;exact⟨rfl,rfl⟩) ?_ ?_
 ·intro X w3 h3
  refine(HI.out _ (hB2.trans (h3.below.mono hB2.size))).mono ?_
  rintro e w4 ⟨rfl,hb⟩
  exact⟨rfl,All.still h3 hb⟩
 simp only [Act.put,dL,dK,dJ]
 repeat (first
  | (refine aN (by rfl) (by rfl) (fun K hK=>?_);go_big_quiet_step (fail);refine az ?_;refine hK.out _ ?_;clear hK K)
  | (refine aK (by rfl) ?_;simp only [Act.put,dL,dK,dJ]))
 refine rY (fun r=>.pointer (some ⟨r,0,none⟩)) [.int .i64 0,.int .i64 0,.int .i64 0,.int .i64 0,.int .i64 0,.int .i64 0,.string ⟨#[]⟩,.string ⟨#[]⟩,.bool false,.int .i64 0,.int .i64 0] 41 rfl rfl rfl (by rfl) (by rfl) (fun w=>by go_simp) ?_
 intro r
 simp only [Act.put,dL,dK,dJ]
 refine eH ?_
 intro w3 hA3
 simp only [List.cons_append,List.nil_append,aT] at hA3
 have k3:dD w3 r (recC 0 0 0 0 0 0 [] [] false 0 0) 41:=hA3.head
 have hr:w2.heap.size≤r:=hA3.base _ (List.Mem.head _) r rfl
 have HB2s:g < w2.heap.size∧w2.heap.size≤r:=⟨g2,hr⟩
 have hB3:Below w2.heap.size w2 w3:=hA3.below
 obtain⟨⟨q0,q1,q2,q3,q4,q5,q6,q7,q8,q9,q10⟩,zf⟩:=qK k3
 clear hne hcell x4 x7 x8 hA3
 have hT3:=HT2.out.below hB3
 have HT3:=ae hT3
 have HR3:=ae (HR2.out.below hB3)
 clear HI c4 c7 c8
 go_upto_region 3 with fail
 refine GR (G:=fun wx=>Code.wp _ _ _ _ wx) k3 _ _ _ _ _ _ _ _ _ _ _ ?_
 intro w4 k4 hch4
 clear q0 q1 q2 q3 q4 q5 q6 q7 q8 q9 q10 zf
 have hT4:=HT3.out.Rn k3 hch4
 have hB4:Below w.heap.size w w4:=(hB2.trans (hB3.mono hB2.size)).trans (hch4.below (aQ hB2.size hB3.size) (fun k e=>by subst e;exact aQ hB2.size hr))
 have HR4:dD w4 w.heap.size (recC 0 0 0 0 0 0 [] [] false 0 0) 41:=HR3.out.qU hch4 (fun e=>by have:=HR2.out.lt;omega)
 clear k3 HT3 HR3 hch4 hB3
 have c4:=bK hT4 hc 4 (by omega)
 simp only [jd,fQ,fP] at c4
 rw [hpar'.out] at c4
 have HT4:=ae hT4
 clear hT4
 go_wp2_with fail
 refine(HP.out _ hB4).mono ?_
 rintro e w5 ⟨rfl,hb5⟩
 have hT5:=HT4.out.below hb5
 have HR5:=ae (HR4.below hb5)
 have HK5:=ae (k4.below hb5)
 have HB5:=ae (hB4.trans (hb5.mono hB4.size))
 clear hb5 HR4 k4 HT4 c4 hB4
 have c7:=bK hT5 hc 7 (by omega)
 have c8:=bK hT5 hc 8 (by omega)
 have c5:=bK hT5 hp 5 (by omega)
 simp only [jd,fQ,fP] at c7 c8 c5
 have y5:=iI hT5 (p*10+1+5)
 have HT5:=ae hT5
 have g5:g < w5.heap.size:=aO hg HB5.out.size
 clear hT5
 cases hq:pv (K p) j
 case' none =>
  have hj0:j=0:=by
   unfold pv at hq
   split at hq
   ·assumption
   ·rename_i e
    rw [qy] at hq
    have:=(ai.1 hj).1
    omega
  have hpv:=HPv.out
  rw [hq,show hO S none=0 from rfl] at hpv
  rw [hpv] at c7
  go_upto_region 7 with fail
  have hT6:=HT5.out.rX (n':={ np with first:=nc.next }) hp 5 (.int .i64 nc.next) (by omega) rfl rfl rfl
  have hch6:dU (fun k=>k=g) w5 (w5.setCell ⟨g,p*10+1+5,none⟩ (.int .i64 nc.next)):=(dU.refl (fun k=>k=g) w5).setCell ⟨g,p*10+1+5,none⟩ (fun _=>(rfl:g=g)) _
  obtain⟨S6,hS6⟩:∃S6,S6=S.put p { np with first:=nc.next }:=⟨_,rfl⟩
  rw [← hS6] at hT6
  have hat6:∀x,S6.at x=(S.at x).map (BG S (K p) p j x):=fun x=>by
   rw [hS6,dC hp]
   by_cases xp:x=p
   ·subst xp
    rw [aC rfl,hp]
    simp only [Option.map_some,BG,hq,reduceCtorEq,iJ,je,aC hj0,← HNx.out]
   ·rw [ax xp]
    cases S.at x with
    | none=>rfl
    | some n=>simp [BG,hq,xp]
  have hsm6:S6.slots.length=S.slots.length∧S6.b=S.b∧S6.s=S.s∧S6.free=S.free∧S6.root=S.root:=by rw [hS6];exact⟨iT _ _ _,rfl,rfl,rfl,rfl⟩
  have HT6:=ae hT6
  have HC6:=ae hch6
  clear hT6 hch6 HT5 c7 c8 c5 y5 hS6 hpv hj0
  generalize w5.setCell ⟨g,p*10+1+5,none⟩ (.int .i64 nc.next)=w6 at *
 case' some q =>
  have hj0:j≠0:=fun e=>by rw [e] at hq;simp [pv] at hq
  have hqm:q∈K p:=by
   unfold pv at hq
   rw [ax hj0] at hq
   exact ah hq
  have hqc:q≠c:=fun e=>by
   unfold pv at hq
   rw [ax hj0] at hq
   have:=hL.inj (e ▸ hq) hj
   omega
  have hqp:q≠p:=fun e=>hL.self (e ▸ hqm:p∈K p)
  obtain⟨nq,hnq⟩:=aB.1 (hL.kin p q hqm).2
  have hpv:=HPv.out
  rw [hq,show hO S (some q)=S.hd q from rfl] at hpv
  rw [hpv] at c7
  have hne0:¬S.hd q=0:=by have:=(hd_ok hL hnq).2;omega
  have hne2:(S.hd q == 0)=false:=by simpa using hne0
  have HQ:=ae (fun wx (hb:Below w5.heap.size w5 wx)=>bV (HT5.out.below hb) (S.hd q) (hd_ok hL hnq).1 (fV hL hnq))
  go_upto_region 5 with fail
  have x7:∀x:dS (jc w5),x.w.cell? ⟨g,c*10+1+7,none⟩=some (.int .i64 (S.hd q)):=fun x=>((oK x.h).1 _ _ g5).trans c7
  have x8:∀x:dS (jc w5),x.w.cell? ⟨g,c*10+1+8,none⟩=some (.int .i64 nc.next):=fun x=>((oK x.h).1 _ _ g5).trans c8
  have hne:=gI w5
  refine oP (fun _=>.pointer (some (na g q))) 12 (by kernel_rfl) (by kernel_rfl) ?_
  simp only [mD,mr,l9,lZ]
  repeat (first
   | (refine aN (by rfl) (by rfl) (fun K hK=>?_);go_big_quiet_step (fail);refine az ?_;refine hK.out _ ?_;clear hK K)
   | (refine aK (by rfl) ?_;simp only [Act.put,dL,dK,dJ]))
  refine dM (.pointer (some (na g q))) rfl (by rfl) (by rfl) (fun w=>by go_simp;exact⟨rfl,rfl⟩) ?_ ?_
  ·intro X wx hx
   refine(HQ.out _ hx).mono ?_
   rintro e wy ⟨rfl,hb⟩
   exact⟨rfl,jw hx (hb.mono hx.size)⟩
  simp only [Act.put,dL,dK,dJ]
  repeat (first
   | (refine aN (by rfl) (by rfl) (fun K hK=>?_);go_big_quiet_step (fail);refine az ?_;refine hK.out _ ?_;clear hK K)
   | (refine aK (by rfl) ?_;simp only [Act.put,dL,dK,dJ]))
  refine eH ?_
  intro w5' h5
  have hT5':=HT5.out.below h5
  have r8:=bK hT5' hnq 8 (by omega)
  simp only [jd,fQ,fP] at r8
  have y8:=iI hT5' (q*10+1+8)
  have HT5':=ae hT5'
  clear hT5' x7 x8 hne HQ
  go_upto_region 7 with fail
  have hT6:=HT5'.out.rX (n':={ nq with next:=nc.next }) hnq 8 (.int .i64 nc.next) (by omega) rfl rfl rfl
  have hch6:dU (fun k=>k=g) w5 (w5'.setCell ⟨g,q*10+1+8,none⟩ (.int .i64 nc.next)):=(dU.of_below (F:=fun k=>k=g) h5).setCell ⟨g,q*10+1+8,none⟩ (fun _=>(rfl:g=g)) _
  obtain⟨S6,hS6⟩:∃S6,S6=S.put q { nq with next:=nc.next }:=⟨_,rfl⟩
  rw [← hS6] at hT6
  have hat6:∀x,S6.at x=(S.at x).map (BG S (K p) p j x):=fun x=>by
   rw [hS6,dC hnq]
   by_cases xq:x=q
   ·subst xq
    rw [aC rfl,hnq]
    simp only [Option.map_some,BG]
    rw [aC hq,ax (fun e=>hqp e.1),← HNx.out]
   ·have xq2:¬q=x:=fun e=>xq e.symm
    rw [ax xq]
    cases S.at x with
    | none=>rfl
    | some n=>simp [BG,hq,xq2,hj0]
  have hsm6:S6.slots.length=S.slots.length∧S6.b=S.b∧S6.s=S.s∧S6.free=S.free∧S6.root=S.root:=by rw [hS6];exact⟨iT _ _ _,rfl,rfl,rfl,rfl⟩
  have HT6:=ae hT6
  have HC6:=ae hch6
  clear hT6 hch6 HT5 HT5' c7 c8 c5 y5 r8 y8 hS6 hpv hj0 hne0 hne2 hqm hqc hqp
  generalize w5'.setCell ⟨g,q*10+1+8,none⟩ (.int .i64 nc.next)=w6 at *
 all_goals
  have hc6:S6.at c=some nc:=by
   rw [hat6,hc]
   have e1:¬pv (K p) j=some c:=fun e=>by
    unfold pv at e
    split at e
    ·cases e
    ·have:=hL.inj e hj;omega
   simp only [Option.map_some,BG]
   rw [ax e1,ax (fun e=>hpc e.1.symm)]
  clear hq
  obtain⟨np6,hp6⟩:∃n,S6.at p=some n:=by rw [hat6,hp];exact⟨_,rfl⟩
  have hT6:=HT6.out
  have d7:=bK hT6 hc6 7 (by omega)
  have d8:=bK hT6 hc6 8 (by omega)
  have d6:=bK hT6 hp6 6 (by omega)
  simp only [jd,fQ,fP] at d7 d8 d6
  have z6:=iI hT6 (p*10+1+6)
  have hl6:=hsm6.1
  have g6:g < w6.heap.size:=aO g5 HC6.out.size
  clear hT6
  cases hq2:(K p)[j+1]?
  case' none =>
   have hjl:j+1=(K p).length:=by
    rw [qy] at hq2
    have:=(ai.1 hj).1
    omega
   have hnx:=HNx.out
   rw [hq2,show hO S none=0 from rfl] at hnx
   rw [hnx] at d8
   go_upto_region 10 with fail
   have hT7:=HT6.out.rX (n':={ np6 with last:=nc.prev }) hp6 6 (.int .i64 nc.prev) (by omega) rfl rfl rfl
   have hch7:dU (fun k=>k=g) w6 (w6.setCell ⟨g,p*10+1+6,none⟩ (.int .i64 nc.prev)):=(dU.refl (fun k=>k=g) w6).setCell ⟨g,p*10+1+6,none⟩ (fun _=>(rfl:g=g)) _
   obtain⟨S7,hS7⟩:∃S7,S7=S6.put p { np6 with last:=nc.prev }:=⟨_,rfl⟩
   rw [← hS7] at hT7
   have hat7:∀x,S7.at x=(S6.at x).map (BF S (K p) p j x):=fun x=>by
    rw [hS7,dC hp6]
    by_cases xp:x=p
    ·subst xp
     rw [aC rfl,hp6]
     simp only [Option.map_some,BF,hq2,reduceCtorEq,iJ,je,aC hjl,← HPv.out]
    ·rw [ax xp]
     cases S6.at x with
     | none=>rfl
     | some n=>simp [BF,hq2,xp]
   have hsm7:S7.slots.length=S.slots.length∧S7.b=S.b∧S7.s=S.s∧S7.free=S.free∧S7.root=S.root:=by rw [hS7];exact⟨(iT _ _ _).trans hsm6.1,hsm6.2⟩
   have HT7:=ae hT7
   have HC7:=ae hch7
   clear hT7 hch7 d7 d8 d6 z6 hS7 hnx hjl hq2
   generalize w6.setCell ⟨g,p*10+1+6,none⟩ (.int .i64 nc.prev)=w7 at *
  case' some q2 =>
   have hqm2:q2∈K p:=ah hq2
   have hqc2:q2≠c:=fun e=>by have:=hL.inj (e ▸ hq2) hj;omega
   have hqp2:q2≠p:=fun e=>hL.self (e ▸ hqm2:p∈K p)
   have hjl:¬j+1=(K p).length:=fun e=>by rw [bQ (by omega)] at hq2;cases hq2
   obtain⟨nq0,hnq0⟩:=aB.1 (hL.kin p q2 hqm2).2
   obtain⟨nq2,hnq2⟩:∃n,S6.at q2=some n:=by rw [hat6,hnq0];exact⟨_,rfl⟩
   have hnx:=HNx.out
   rw [hq2,show hO S (some q2)=S.hd q2 from rfl] at hnx
   rw [hnx] at d8
   have hne0':¬S.hd q2=0:=by have:=(hd_ok hL hnq0).2;omega
   have hne2':(S.hd q2 == 0)=false:=by simpa using hne0'
   have hhd2:S6.hd q2=S.hd q2:=by unfold Tr.hd;rw [hsm6.2.1,hsm6.2.2.1]
   have HQ2:=ae (fun wx (hb:Below w6.heap.size w6 wx)=>bV (HT6.out.below hb) (S.hd q2) (hd_ok hL hnq0).1 (by rw [← hhd2];exact Ea HT6.out.few (dN hnq2)))
   go_upto_region 8 with fail
   have x7':∀x:dS (jc w6),x.w.cell? ⟨g,c*10+1+7,none⟩=some (.int .i64 nc.prev):=fun x=>((oK x.h).1 _ _ g6).trans d7
   have x8':∀x:dS (jc w6),x.w.cell? ⟨g,c*10+1+8,none⟩=some (.int .i64 (S.hd q2)):=fun x=>((oK x.h).1 _ _ g6).trans d8
   have hne':=gI w6
   refine oP (fun _=>.pointer (some (na g q2))) 12 (by kernel_rfl) (by kernel_rfl) ?_
   simp only [mD,mr,l9,lZ]
   repeat (first
    | (refine aN (by rfl) (by rfl) (fun K hK=>?_);go_big_quiet_step (fail);refine az ?_;refine hK.out _ ?_;clear hK K)
    | (refine aK (by rfl) ?_;simp only [Act.put,dL,dK,dJ]))
   refine dM (.pointer (some (na g q2))) rfl (by rfl) (by rfl) (fun w=>by go_simp;exact⟨rfl,rfl⟩) ?_ ?_
   ·intro X wx hx
    refine(HQ2.out _ hx).mono ?_
    rintro e wy ⟨rfl,hb⟩
    exact⟨rfl,jw hx (hb.mono hx.size)⟩
   simp only [Act.put,dL,dK,dJ]
   repeat (first
    | (refine aN (by rfl) (by rfl) (fun K hK=>?_);go_big_quiet_step (fail);refine az ?_;refine hK.out _ ?_;clear hK K)
    | (refine aK (by rfl) ?_;simp only [Act.put,dL,dK,dJ]))
   refine eH ?_
   intro w6' h6
   have hT6':=HT6.out.below h6
   have r7:=bK hT6' hnq2 7 (by omega)
   simp only [jd,fQ,fP] at r7
   have y7:=iI hT6' (q2*10+1+7)
   have HT6':=ae hT6'
   clear hT6' x7' x8' hne' HQ2
   go_upto_region 10 with fail
   have hT7:=HT6'.out.rX (n':={ nq2 with prev:=nc.prev }) hnq2 7 (.int .i64 nc.prev) (by omega) rfl rfl rfl
   have hch7:dU (fun k=>k=g) w6 (w6'.setCell ⟨g,q2*10+1+7,none⟩ (.int .i64 nc.prev)):=(dU.of_below (F:=fun k=>k=g) h6).setCell ⟨g,q2*10+1+7,none⟩ (fun _=>(rfl:g=g)) _
   obtain⟨S7,hS7⟩:∃S7,S7=S6.put q2 { nq2 with prev:=nc.prev }:=⟨_,rfl⟩
   rw [← hS7] at hT7
   have hat7:∀x,S7.at x=(S6.at x).map (BF S (K p) p j x):=fun x=>by
    rw [hS7,dC hnq2]
    by_cases xq:x=q2
    ·subst xq
     rw [aC rfl,hnq2]
     simp only [Option.map_some,BF]
     rw [aC hq2,ax (fun e=>hqp2 e.1),← HPv.out]
    ·have xq2:¬q2=x:=fun e=>xq e.symm
     rw [ax xq]
     cases S6.at x with
     | none=>rfl
     | some n=>simp [BF,hq2,xq2,hjl]
   have hsm7:S7.slots.length=S.slots.length∧S7.b=S.b∧S7.s=S.s∧S7.free=S.free∧S7.root=S.root:=by rw [hS7];exact⟨(iT _ _ _).trans hsm6.1,hsm6.2⟩
   have HT7:=ae hT7
   have HC7:=ae hch7
   clear hT7 hch7 HT6' d7 d8 d6 z6 r7 y7 hS7 hnx hjl hne0' hne2' hqm2 hqc2 hqp2 hq2
   generalize w6'.setCell ⟨g,q2*10+1+7,none⟩ (.int .i64 nc.prev)=w7 at *
  all_goals
   have hc7:S7.at c=some nc:=by
    rw [hat7,hc6]
    have e1:¬(K p)[j+1]? = some c:=fun e=>by have:=hL.inj e hj;omega
    simp only [Option.map_some,BF]
    rw [ax e1,ax (fun e=>hpc e.1.symm)]
   have hT7:=HT7.out
   have v4:=bK hT7 hc7 4 (by omega)
   have v7:=bK hT7 hc7 7 (by omega)
   have v8:=bK hT7 hc7 8 (by omega)
   simp only [jd,fQ,fP] at v4 v7 v8
   have u4:=iI hT7 (c*10+1+4)
   have u7:=iI hT7 (c*10+1+7)
   have u8:=iI hT7 (c*10+1+8)
   clear hT7
   go_upto_region 11 with fail
   have hT8:=((HT7.out.rX (n':={ nc with parent:=0 }) hc7 4 (.int .i64 0) (by omega) rfl rfl rfl).rX (i:=c) (n:={ nc with parent:=0 }) (n':={ nc with parent:=0,prev:=0 }) (by rw [dC hc7,aC rfl]) 7 (.int .i64 0) (by omega) rfl rfl rfl).rX (i:=c) (n:={ nc with parent:=0,prev:=0 }) (n':={ nc with parent:=0,prev:=0,next:=0 }) (by rw [dC (by rw [dC hc7,aC rfl]),aC rfl]) 8 (.int .i64 0) (by omega) rfl rfl rfl
   have hch8:dU (fun k=>k=g) w7 (((w7.setCell ⟨g,c*10+1+4,none⟩ (.int .i64 0)).setCell ⟨g,c*10+1+7,none⟩ (.int .i64 0)).setCell ⟨g,c*10+1+8,none⟩ (.int .i64 0)) :=
    (((dU.refl (fun k=>k=g) w7).setCell ⟨g,c*10+1+4,none⟩ (fun _=>(rfl:g=g)) _).setCell ⟨g,c*10+1+7,none⟩ (fun _=>(rfl:g=g)) _).setCell ⟨g,c*10+1+8,none⟩ (fun _=>(rfl:g=g)) _
   obtain⟨S8,hS8⟩:∃S8,S8=((S7.put c { nc with parent:=0 }).put c { nc with parent:=0,prev:=0 }).put c { nc with parent:=0,prev:=0,next:=0 }:=⟨_,rfl⟩
   rw [← hS8] at hT8
   have hcut:yI S S8 (K p) p j c:=by
    refine⟨fun x=>?_,?_,?_,?_,?_,?_⟩
    ·rw [hS8,dC (by rw [dC (by rw [dC hc7,aC rfl]),aC rfl])]
     by_cases xc:x=c
     ·subst xc
      rw [aC rfl,hc]
      have e1:¬x=p:=fun e=>hpc e.symm
      simp [yt,e1]
     ·rw [ax xc,dC (by rw [dC hc7,aC rfl]),ax xc,dC hc7,ax xc,hat7,hat6]
      cases S.at x with
      | none=>rfl
      | some n=>simp [yt,BG,BF,xc]
    ·rw [hS8];exact(iT _ _ _).trans ((iT _ _ _).trans ((iT _ _ _).trans hsm7.1))
    ·rw [hS8];exact hsm7.2.1
    ·rw [hS8];exact hsm7.2.2.1
    ·rw [hS8];exact hsm7.2.2.2.1
    ·rw [hS8];exact hsm7.2.2.2.2
   have HT8:=ae hT8
   have HC8:=ae (((HC6.out.trans HC7.out (fun _ _ h=>h)).trans hch8 (fun _ _ h=>h)))
   clear hT8 hch8 HT7 HC7 v4 v7 v8 u4 u7 u8 hS8
   generalize ((w7.setCell ⟨g,c*10+1+4,none⟩ (.int .i64 0)).setCell ⟨g,c*10+1+7,none⟩ (.int .i64 0)).setCell ⟨g,c*10+1+8,none⟩ (.int .i64 0)=w8 at *
   have k8:=HR5.out.qU HC8.out (fun e=>by omega)
   have b8:=HK5.out.qU HC8.out (fun e=>by have:=HB2s;omega)
   obtain⟨⟨q0,q1,q2',q3,q4,q5,q6,q7,q8,q9,q10⟩,zf⟩:=qK k8
   have b0:=b8.cell 0
   have b1:=b8.cell 1
   have b2:=b8.cell 2
   have b3:=b8.cell 3
   have b4:=b8.cell 4
   have b5:=b8.cell 5
   have b6:=b8.cell 6
   have b7:=b8.cell 7
   have b8':=b8.cell 8
   have b9:=b8.cell 9
   have b10:=b8.cell 10
   simp only [fQ,fP] at b0 b1 b2 b3 b4 b5 b6 b7 b8' b9 b10
   go_wp2_with fail
   (try simp only [Exit.inBlock,Exit.then])
   have k9:=CO k8 2 (S.hd p) (S.hd c) nc.prev nc.next (j:Int) ⟨#[]⟩ ⟨#[]⟩ false 0 0
   refine nZ (v:=.agg (recC 2 (S.hd p) (S.hd c) nc.prev nc.next (j:Int) [] [] false 0 0).toArray) (Xd Tryz.results53 _ _ w.heap.size 41 _ (0,0) _ ?_ k9 Tryz.underlying41 rfl Hy) rfl ?_
   ·rfl
   have HRC:∀{wf},dU (fun k=>k=w.heap.size) w8 wf→fZ B R S8 (.slice (some ⟨g,0,none⟩) S8.slots.length cap) fv wf∧dU (fun k=>k=g) w wf:=fun {wf} hx=>by
    refine⟨?_,?_⟩
    ·exact HT8.out.Rn k8 hx
    ·exact((dU.of_below HB5.out).trans HC8.out (fun _ _ h=>h)).trans hx (fun i hi e=>by omega)
   exact⟨S8,hcut,rfl,HRC (wL w8 w.heap.size _ _ _ _ _ _ _ _ _ _ _)⟩
theorem P8 {B R g cap:Nat}{S:Tr}{fv:Value}{w:World}{K:Nat→List Nat}{d d':Nat→Nat}(h:fZ B R S (.slice (some ⟨g,0,none⟩) S.slots.length cap) fv w)(hL:Lk S K d)(p c j b:Nat)(np nc nb:Nd)(hp:S.at p=some np)(hc:S.at c=some nc)(hb:S.at b=some nb)(hj:(K p)[j]? = some b)(hpc:p≠c)
  (hdet:∀q,c∉K q)(hL':∀S',Linked S S' (K p) p j c→Lk S' (jK K p j c) d') :
  Calls Tryz.prog 57 #[.pointer (some ⟨R,0,none⟩),.int .i64 (S.hd p),.int .i64 (S.hd c),.int .i64 (S.hd b)] w fun e w'=>∃S',Linked S S' (K p) p j c∧e=.returned (.agg (recC 1 (S.hd p) (S.hd c) nb.prev (S.hd b) j [] [] false 0 0).toArray) ∧
   fZ B R S' (.slice (some ⟨g,0,none⟩) S'.slots.length cap) fv w'∧dU (fun k=>k=g) w w':=by
 have hbm:=ah hj
 have hbc:b≠c:=fun e=>hdet p (e ▸ hbm)
 have hbp:b≠p:=fun e=>hL.self (e ▸ hbm:p∈K p)
 have hpr:nb.prev=hO S (pv (K p) j):=(hL.kid p j b nb hj hb).2.1
 have hjl:j < (K p).length:=(ai.1 hj).1
 have hb0:¬S.hd b=0:=by have:=(hd_ok hL hb).2;omega
 have hb1:(S.hd b == 0)=false:=by simpa using hb0
 have HPr:=ae hpr
 clear hpr
 have HP:=ae (fun wx (hb:Below w.heap.size w wx)=>bV (h.below hb) (S.hd p) (hd_ok hL hp).1 (fV hL hp))
 have HC:=ae (fun wx (hb:Below w.heap.size w wx)=>bV (h.below hb) (S.hd c) (hd_ok hL hc).1 (fV hL hc))
 have HT:=ae h
 have hbl:Below w.heap.size w (w.alloc (.cells #[.int .i64 0,.int .i64 0,.int .i64 0,.int .i64 0,.int .i64 0,.int .i64 0,.string ⟨#[]⟩,.string ⟨#[]⟩,.bool false,.int .i64 0,.int .i64 0] 41)):=(ak _ _).alloc (au _) _
 clear h
 go_enter Tryz.func57,Tryz.ntmps57
 go_wp2_with fail
 refine(HP.out _ hbl).mono ?_
 rintro e w2 ⟨rfl,hb2⟩
 have hB2:=hbl.trans (hb2.mono hbl.size)
 go_wp2_with fail
 refine(HC.out _ hB2).mono ?_
 rintro e w3 ⟨rfl,hb3⟩
 have hB3:=hB2.trans (hb3.mono hB2.size)
 have hT3:=HT.out.below hB3
 have c4:=bK hT3 hc 4 (by omega)
 have c8:=bK hT3 hc 8 (by omega)
 simp only [jd,fQ,fP] at c4 c8
 have z4:=iI hT3 (c*10+1+4)
 have z8:=iI hT3 (c*10+1+8)
 have HT3:=ae hT3
 clear hT3
 go_upto_region 4 with fail
 have hT4:=(HT3.out.rX (n':={ nc with parent:=S.hd p }) hc 4 (.int .i64 (S.hd p)) (by omega) rfl rfl rfl).rX (i:=c) (n:={ nc with parent:=S.hd p }) (n':={ nc with parent:=S.hd p,next:=S.hd b }) (by rw [dC hc,aC rfl]) 8 (.int .i64 (S.hd b)) (by omega) rfl rfl rfl
 have hch4:dU (fun k=>k=g) w3 ((w3.setCell ⟨g,c*10+1+4,none⟩ (.int .i64 (S.hd p))).setCell ⟨g,c*10+1+8,none⟩ (.int .i64 (S.hd b))) :=
  ((dU.refl (fun k=>k=g) w3).setCell ⟨g,c*10+1+4,none⟩ (fun _=>(rfl:g=g)) _).setCell ⟨g,c*10+1+8,none⟩ (fun _=>(rfl:g=g)) _
 obtain⟨S4,hS4⟩:∃S4,S4=(S.put c { nc with parent:=S.hd p }).put c { nc with parent:=S.hd p,next:=S.hd b }:=⟨_,rfl⟩
 rw [← hS4] at hT4
 have hat4:∀x,x≠c→S4.at x=S.at x:=fun x xc=>by rw [hS4,dC (by rw [dC hc,aC rfl]),ax xc,dC hc,ax xc]
 have hc4:S4.at c=some { nc with parent:=S.hd p,next:=S.hd b }:=by rw [hS4,dC (by rw [dC hc,aC rfl]),aC rfl]
 have hb4:S4.at b=some nb:=(hat4 b hbc).trans hb
 have hhd4:∀x,S4.hd x=S.hd x:=fun x=>by rw [hS4];rfl
 have z7:=iI hT4 (c*10+1+7)
 have HT4:=ae hT4
 have HC4:=ae hch4
 clear hT4 hch4 HT3 c4 c8 z4 z8
 generalize (w3.setCell ⟨g,c*10+1+4,none⟩ (.int .i64 (S.hd p))).setCell ⟨g,c*10+1+8,none⟩ (.int .i64 (S.hd b))=w4 at *
 have HQ4:=ae (bV HT4.out (S.hd b) (hd_ok hL hb).1 (by rw [← hhd4];exact Ea HT4.out.few (dN hb4)))
 go_wp2_with fail
 refine HQ4.out.mono ?_
 rintro e w4' ⟨rfl,hb4'⟩
 have hT4':=HT4.out.below hb4'
 have l7:=bK hT4' hb4 7 (by omega)
 have l7c:=bK hT4' hc4 7 (by omega)
 simp only [jd,fQ,fP] at l7 l7c
 have z7':=iI hT4' (c*10+1+7)
 have HT4':=ae hT4'
 clear hT4' z7
 go_upto_region 5 with fail
 have hT5:=HT4'.out.rX (n':={ nc with parent:=S.hd p,next:=S.hd b,prev:=nb.prev }) hc4 7 (.int .i64 nb.prev) (by omega) rfl rfl rfl
 have hch5:dU (fun k=>k=g) w4 (w4'.setCell ⟨g,c*10+1+7,none⟩ (.int .i64 nb.prev)):=(dU.of_below (F:=fun k=>k=g) hb4').setCell ⟨g,c*10+1+7,none⟩ (fun _=>(rfl:g=g)) _
 obtain⟨S5,hS5⟩:∃S5,S5=S4.put c { nc with parent:=S.hd p,next:=S.hd b,prev:=nb.prev }:=⟨_,rfl⟩
 rw [← hS5] at hT5
 have hat5:∀x,x≠c→S5.at x=S.at x:=fun x xc=>by rw [hS5,dC hc4,ax xc];exact hat4 x xc
 have hc5:S5.at c=some { nc with parent:=S.hd p,next:=S.hd b,prev:=nb.prev }:=by rw [hS5,dC hc4,aC rfl]
 have hb5:S5.at b=some nb:=(hat5 b hbc).trans hb
 have hhd5:∀x,S5.hd x=S.hd x:=fun x=>by rw [hS5];exact hhd4 x
 have HT5:=ae hT5
 have HC5:=ae hch5
 clear hT5 hch5 HT4 HT4' l7 l7c z7' HQ4
 generalize w4'.setCell ⟨g,c*10+1+7,none⟩ (.int .i64 nb.prev)=w5 at *
 have HQ5:=ae (bV HT5.out (S.hd b) (hd_ok hL hb).1 (by rw [← hhd5];exact Ea HT5.out.few (dN hb5)))
 go_wp2_with fail
 refine HQ5.out.mono ?_
 rintro e w5' ⟨rfl,hb5'⟩
 have hT5':=HT5.out.below hb5'
 have m7:=bK hT5' hb5 7 (by omega)
 simp only [jd,fQ,fP] at m7
 have y7:=iI hT5' (b*10+1+7)
 have HT5':=ae hT5'
 clear hT5'
 go_upto_region 8 with fail
 have hT6:=HT5'.out.rX (n':={ nb with prev:=S.hd c }) hb5 7 (.int .i64 (S.hd c)) (by omega) rfl rfl rfl
 have hch6:dU (fun k=>k=g) w5 (w5'.setCell ⟨g,b*10+1+7,none⟩ (.int .i64 (S.hd c))):=(dU.of_below (F:=fun k=>k=g) hb5').setCell ⟨g,b*10+1+7,none⟩ (fun _=>(rfl:g=g)) _
 obtain⟨S6,hS6⟩:∃S6,S6=S5.put b { nb with prev:=S.hd c }:=⟨_,rfl⟩
 rw [← hS6] at hT6
 have hat6:∀x,x≠c→x≠b→S6.at x=S.at x:=fun x xc xb=>by rw [hS6,dC hb5,ax xb];exact hat5 x xc
 have hp6:S6.at p=some np:=(hat6 p hpc (fun e=>hbp e.symm)).trans hp
 have hb6:S6.at b=some { nb with prev:=S.hd c }:=by rw [hS6,dC hb5,aC rfl]
 have hc6:S6.at c=some { nc with parent:=S.hd p,next:=S.hd b,prev:=nb.prev }:=by rw [hS6,dC hb5,ax (fun e=>hbc e.symm)];exact hc5
 have hhd6:∀x,S6.hd x=S.hd x:=fun x=>by rw [hS6];exact hhd5 x
 have hsm6:S6.slots.length=S.slots.length∧S6.b=S.b∧S6.s=S.s∧S6.free=S.free∧S6.root=S.root:=by
  rw [hS6,hS5,hS4];exact⟨by rw [iT,iT,iT,iT],rfl,rfl,rfl,rfl⟩
 have o7:=bK hT6 hc6 7 (by omega)
 have o5:=bK hT6 hp6 5 (by omega)
 simp only [jd,fQ,fP] at o7 o5
 have x5:=iI hT6 (p*10+1+5)
 have HT6:=ae hT6
 have HC6:=ae hch6
 clear hT6 hch6 HT5 HT5' HQ5 m7 y7
 generalize w5'.setCell ⟨g,b*10+1+7,none⟩ (.int .i64 (S.hd c))=w6 at *
 have hlast:=HPr.out
 cases hq:pv (K p) j
 case' none =>
  rw [hq,show hO S none=0 from rfl] at hlast
  rw [hlast] at o7
  have hj0:j=0:=by
   unfold pv at hq
   split at hq
   ·assumption
   ·rename_i e
    rw [qy] at hq
    omega
  go_upto_region 11 with fail
  have hT7:=HT6.out.rX (n':={ np with first:=S.hd c }) hp6 5 (.int .i64 (S.hd c)) (by omega) rfl rfl rfl
  have hch7:dU (fun k=>k=g) w6 (w6.setCell ⟨g,p*10+1+5,none⟩ (.int .i64 (S.hd c))):=(dU.refl (fun k=>k=g) w6).setCell ⟨g,p*10+1+5,none⟩ (fun _=>(rfl:g=g)) _
  obtain⟨S7,hS7⟩:∃S7,S7=S6.put p { np with first:=S.hd c }:=⟨_,rfl⟩
  rw [← hS7] at hT7
  have hlk:Linked S S7 (K p) p j c:=by
   refine⟨fun x=>?_,by rw [hS7,iT];exact hsm6.1,by rw [hS7];exact hsm6.2.1,by rw [hS7];exact hsm6.2.2.1,by rw [hS7];exact hsm6.2.2.2.1,by rw [hS7];exact hsm6.2.2.2.2⟩
   rw [hS7,dC hp6]
   by_cases xp:x=p
   ·subst xp
    rw [aC rfl,hp]
    have e2:¬(K x)[j]? = some x:=fun e=>hL.self (ah e)
    simp only [Option.map_some,jI,ax hpc,hq,ax e2,reduceCtorEq,iJ,je,aC hj0,ax (Nat.ne_of_lt hjl)]
   ·rw [ax xp]
    by_cases xb:x=b
    ·subst xb
     rw [hb6,hb]
     simp only [Option.map_some,jI,ax hbc,hq,aC hj,reduceCtorEq,iJ,xp,uQ]
    ·by_cases xc:x=c
     ·subst xc
      rw [hc6,hc]
      simp only [Option.map_some,jI,aC,hq,hj,xp,uQ,iJ,hO,hlast]
     ·rw [hat6 x xc xb]
      cases S.at x with
      | none=>rfl
      | some n =>
       have e3:¬(K p)[j]? = some x:=fun e=>xb (by rw [hj] at e;cases e;rfl)
       simp only [Option.map_some,jI,ax xc,hq,ax e3,reduceCtorEq,iJ,xp,uQ]
  have hl7:=hL' S7 hlk
  have hc7:S7.at c=some { nc with parent:=S.hd p,next:=S.hd b,prev:=nb.prev }:=by rw [hS7,dC hp6,ax (fun e=>hpc e.symm)];exact hc6
  have HT7:=ae hT7
  have HC7:=ae hch7
  clear hT7 hch7 HT6 o7 o5 x5 hj0
  generalize w6.setCell ⟨g,p*10+1+5,none⟩ (.int .i64 (S.hd c))=w7 at *
 case' some q =>
  rw [hq,show hO S (some q)=S.hd q from rfl] at hlast
  rw [hlast] at o7
  have hj0:j≠0:=fun e=>by rw [e] at hq;simp [pv] at hq
  have hq':=hq
  unfold pv at hq'
  rw [ax hj0] at hq'
  have hqm:q∈K p:=ah hq'
  have hqc:q≠c:=fun e=>hdet p (e ▸ hqm)
  have hqp:q≠p:=fun e=>hL.self (e ▸ hqm:p∈K p)
  have hqb:q≠b:=fun e=>by have:=hL.inj (e ▸ hq') hj;omega
  obtain⟨nq,hnq⟩:=aB.1 (hL.kin p q hqm).2
  have hq6:S6.at q=some nq:=(hat6 q hqc hqb).trans hnq
  have hne:¬S.hd q=0:=by have:=(hd_ok hL hnq).2;omega
  have hne2:(S.hd q == 0)=false:=by simpa using hne
  have HQ:=ae (bV HT6.out (S.hd q) (hd_ok hL hnq).1 (by rw [← hhd6];exact Ea HT6.out.few (dN hq6)))
  go_wp2_with fail
  refine HQ.out.mono ?_
  rintro e w6' ⟨rfl,hb6'⟩
  have hT6':=HT6.out.below hb6'
  have r8:=bK hT6' hq6 8 (by omega)
  simp only [jd,fQ,fP] at r8
  have y8:=iI hT6' (q*10+1+8)
  have HT6':=ae hT6'
  clear hT6'
  go_upto_region 11 with fail
  have hT7:=HT6'.out.rX (n':={ nq with next:=S.hd c }) hq6 8 (.int .i64 (S.hd c)) (by omega) rfl rfl rfl
  have hch7:dU (fun k=>k=g) w6 (w6'.setCell ⟨g,q*10+1+8,none⟩ (.int .i64 (S.hd c))):=(dU.of_below (F:=fun k=>k=g) hb6').setCell ⟨g,q*10+1+8,none⟩ (fun _=>(rfl:g=g)) _
  obtain⟨S7,hS7⟩:∃S7,S7=S6.put q { nq with next:=S.hd c }:=⟨_,rfl⟩
  rw [← hS7] at hT7
  have hlk:Linked S S7 (K p) p j c:=by
   refine⟨fun x=>?_,by rw [hS7,iT];exact hsm6.1,by rw [hS7];exact hsm6.2.1,by rw [hS7];exact hsm6.2.2.1,by rw [hS7];exact hsm6.2.2.2.1,by rw [hS7];exact hsm6.2.2.2.2⟩
   rw [hS7,dC hq6]
   by_cases xq:x=q
   ·subst xq
    rw [aC rfl,hnq]
    have e3:¬(K p)[j]? = some x:=fun e=>hqb (by rw [hj] at e;cases e;rfl)
    simp only [Option.map_some,jI,ax hqc,hq,ax e3,aC,hqp,uQ,iJ]
   ·have xq2:¬q=x:=fun e=>xq e.symm
    rw [ax xq]
    have e4:¬(some q:Option Nat)=some x:=fun e=>xq2 (cO e)
    by_cases xp:x=p
    ·subst xp
     rw [hp6,hp]
     have e2:¬(K x)[j]? = some x:=fun e=>hL.self (ah e)
     simp only [Option.map_some,jI,ax hpc,hq,ax e2,ax e4,je,ax hj0,ax (Nat.ne_of_lt hjl)]
    ·by_cases xb:x=b
     ·subst xb
      rw [hb6,hb]
      simp only [Option.map_some,jI,ax hbc,hq,aC hj,ax e4,xp,uQ,iJ]
     ·by_cases xc:x=c
      ·subst xc
       rw [hc6,hc]
       simp only [Option.map_some,jI,aC,hq,hj,xp,uQ,iJ,hO,hlast]
      ·rw [hat6 x xc xb]
       cases S.at x with
       | none=>rfl
       | some n =>
        have e3:¬(K p)[j]? = some x:=fun e=>xb (by rw [hj] at e;cases e;rfl)
        simp only [Option.map_some,jI,ax xc,hq,ax e3,ax e4,xp,uQ,iJ]
  have hl7:=hL' S7 hlk
  have hc7:S7.at c=some { nc with parent:=S.hd p,next:=S.hd b,prev:=nb.prev }:=by rw [hS7,dC hq6,ax (fun e=>hqc e.symm)];exact hc6
  have HT7:=ae hT7
  have HC7:=ae hch7
  clear hT7 hch7 HT6 HT6' o7 o5 x5 r8 y8 HQ hne hne2 hq' hqm hqc hqp hqb hj0
  generalize w6'.setCell ⟨g,q*10+1+8,none⟩ (.int .i64 (S.hd c))=w7 at *
 all_goals
  clear hq hlast
  clear hb0 hb1
  have HR:=ae (show dD w7 w.heap.size (recC 0 0 0 0 0 0 [] [] false 0 0) 41 from by
   have g0:¬w.heap.size=g:=by have:=(HT.out.slots.lt g rfl).2;omega
   have k0:=dD.new w (recC 0 0 0 0 0 0 [] [] false 0 0) 41
   exact((((((k0.below hb2).below hb3).qU HC4.out g0).qU HC5.out g0).qU HC6.out g0).qU HC7.out g0))
  have HI:=ae (fun wx (hb:Below w7.heap.size w7 wx)=>sQ (HT7.out.below hb) hl7 p j c (by unfold jK;rw [aC rfl,AY _ _ _ _ (Xf hjl),ax (by omega),aC rfl]))
  rw [hlk.hd] at HI
  have c7:=bK HT7.out hc7 7 (by omega)
  simp only [jd,fQ,fP] at c7
  have g7:=(HT7.out.slots.lt g rfl).2
  have hne:=gI w7
  have x7:∀x:dS (jc w7),x.w.cell? ⟨g,c*10+1+7,none⟩=some (.int .i64 nb.prev):=fun x=>((oK x.h).1 _ _ g7).trans c7
  refine oP (.int .i64 (j:Int) |> fun v _=>v) 11 (by kernel_rfl) (by kernel_rfl) ?_
  simp only [mD,mr,l9,lZ]
  repeat (first
   | (refine aN (by rfl) (by rfl) (fun K hK=>?_);go_big_quiet_step (fail);refine az ?_;refine hK.out _ ?_;clear hK K)
   | (refine aK (by rfl) ?_;simp only [Act.put,dL,dK,dJ]))
  refine dM (.int .i64 (j:Int)) rfl (by rfl) (by rfl) (fun w=>by go_simp;exact⟨rfl,rfl⟩) ?_ ?_
  ·intro X w2 h2
   refine(HI.out _ h2).mono ?_
   rintro e w3 ⟨rfl,hb⟩
   exact⟨rfl,jw h2 (hb.mono h2.size)⟩
  simp only [Act.put,dL,dK,dJ]
  repeat (first
   | (refine aN (by rfl) (by rfl) (fun K hK=>?_);go_big_quiet_step (fail);refine az ?_;refine hK.out _ ?_;clear hK K)
   | (refine aK (by rfl) ?_;simp only [Act.put,dL,dK,dJ]))
  refine eH ?_
  intro w8 h8
  have k8:=HR.out.below h8
  obtain⟨⟨q0,q1,q2,q3,q4,q5,q6,q7,q8,q9,q10⟩,zf⟩:=qK k8
  clear HI hne x7
  go_wp2_with fail
  (try simp only [Exit.inBlock,Exit.then])
  have k9:=CO k8 1 (S.hd p) (S.hd c) nb.prev (S.hd b) (j:Int) ⟨#[]⟩ ⟨#[]⟩ false 0 0
  refine nZ (v:=.agg (recC 1 (S.hd p) (S.hd c) nb.prev (S.hd b) j [] [] false 0 0).toArray) (Xd Tryz.results57 _ _ w.heap.size 41 _ (0,0) _ ?_ k9 Tryz.underlying41 rfl Hy) rfl ?_
  ·rfl
  have HRC:∀{wf},dU (fun k=>k=w.heap.size) w8 wf→fZ B R S7 (.slice (some ⟨g,0,none⟩) S7.slots.length cap) fv wf∧dU (fun k=>k=g) w wf:=fun {wf} hc=>by
   refine⟨(HT7.out.below h8).Rn k8 hc,?_⟩
   have e3:dU (fun k=>k=g) w w3:=dU.of_below hB3
   have e8:dU (fun k=>k=g) w w8:=((((e3.trans HC4.out (fun _ _ h=>h)).trans HC5.out (fun _ _ h=>h)).trans HC6.out (fun _ _ h=>h)).trans HC7.out (fun _ _ h=>h)).trans (dU.of_below (F:=fun k=>k=g) h8) (fun _ _ h=>h)
   exact e8.trans hc (fun i hi e=>by omega)
  exact⟨S7,hlk,rfl,HRC (wL w8 w.heap.size _ _ _ _ _ _ _ _ _ _ _)⟩
end Go.Proofs.YtfelmdkeaacfeaaGreatDoor.W
end
section
namespace Go.Proofs.YtfelmdkeaacfeaaGreatDoor.W
def wZ (K:Nat→List Nat):Nat→Nat→Nat
 | 0,_=>1
 | f+1,i=>1+((K i).map (wZ K f)).sum
def deep (S:Tr)(d:Nat→Nat)(n:Nat):List Nat:=(List.range S.slots.length).filter fun i=>(S.at i).isSome && decide (n < d i)
theorem Lk.pos {S K d}(h:Lk S K d)(i:Nat)(hi:(S.at i).isSome=true):1≤d i:=by
 by_cases hp:∃p,i∈K p
 ·obtain⟨p,hp⟩:=hp
  have:=h.qc p i hp
  omega
 ·have:=h.one i hi (fun p hx=>hp ⟨p,hx⟩)
  omega
end Go.Proofs.YtfelmdkeaacfeaaGreatDoor.W
end
section
namespace Go.Proofs.YtfelmdkeaacfeaaGreatDoor.W
open Go
def Tr.snoc (S:Tr)(n:Nd):Tr:={ S with slots:=S.slots ++ [some n] }
theorem yG {S:Tr}{i:Nat}(h:S.slots.length≤i):S.at i=none:=by unfold Tr.at;rw [bQ h];rfl
theorem mQ (S:Tr)(n:Nd)(x:Nat):(S.snoc n).at x=if x=S.slots.length then some n else S.at x:=by
 unfold Tr.at Tr.snoc
 simp only []
 by_cases h:x=S.slots.length
 ·subst h;simp
 ·rw [ax h]
  by_cases h2:x < S.slots.length
  ·rw [di h2]
  ·rw [bQ (by rw [aA,List.length_singleton];omega),bQ (by omega)]
theorem Oi (S:Tr)(n:Nd):(S.snoc n).live=S.live+1:=by unfold Tr.live Tr.snoc;simp
theorem RU (S:Tr)(n:Nd)(i:Nat):(S.snoc n).hd i=S.hd i:=rfl
theorem vF (S:Tr)(n:Nd):(S.snoc n).slots.length=S.slots.length+1:=by unfold Tr.snoc;simp
theorem CW (S:Tr)(n:Nd)(o:Option Nat):hO (S.snoc n) o=hO S o:=by cases o <;> rfl
theorem Lk.wO {S K d}(h:Lk S K d){i:Nat}(hi:S.at i=none):K i=[]:=by
 cases e:K i with
 | nil=>rfl
 | cons k t=>have:=(h.kin i k (by rw [e];simp)).1;rw [hi] at this;cases this
theorem Lk.DT {S K d}(h:Lk S K d){i:Nat}(hi:S.at i=none)(p:Nat):i∉K p:=fun hk=>by
 have:=(h.kin p i hk).2;rw [hi] at this;cases this
theorem Lk.snoc {S K d}(h:Lk S K d){n:Nd}(h1:n.parent=0)(h2:n.first=0)(h3:n.last=0)(h4:n.prev=0)(h5:n.next=0)(hl:S.slots.length < 1000000):Lk (S.snoc n) K (fun x=>if x=S.slots.length then 1 else d x):=by
 have hnew:S.at S.slots.length=none:=yG (au _)
 have hmem:∀{p k},k∈K p→k≠S.slots.length∧p≠S.slots.length:=fun {p k} hk=>by
  have:=h.kin p k hk
  constructor
  ·rintro rfl;rw [hnew] at this;cases this.2
  ·rintro rfl;rw [hnew] at this;cases this.1
 refine⟨?_,?_,?_,?_,h.nodup,?_,?_,?_,by rw [vF];omega⟩
 ·intro p k hk
  obtain⟨e1,e2⟩:=hmem hk
  rw [mQ,mQ,ax e1,ax e2]
  exact h.kin p k hk
 ·intro i m hi
  rw [mQ] at hi
  rw [CW,CW]
  by_cases e:i=S.slots.length
  ·subst e
   rw [aC rfl] at hi
   cases hi
   rw [h.wO hnew]
   exact⟨h2,h3⟩
  ·rw [ax e] at hi;exact h.node i m hi
 ·intro p j k m hk hm
  obtain⟨e1,e2⟩:=hmem (ah hk)
  rw [mQ,ax e1] at hm
  rw [CW,CW,RU]
  exact h.kid p j k m hk hm
 ·intro i m hi hp
  rw [mQ] at hi
  by_cases e:i=S.slots.length
  ·rw [aC e] at hi
   cases hi
   exact⟨h1,h4,h5⟩
  ·rw [ax e] at hi;exact h.top i m hi hp
 ·intro p k hk
  obtain⟨e1,e2⟩:=hmem hk
  simp only [ax e1,ax e2]
  exact h.qc p k hk
 ·intro i hi hp
  rw [mQ] at hi
  by_cases e:i=S.slots.length
  ·simp only [aC e]
  ·rw [ax e] at hi
   simp only [ax e]
   exact h.one i hi hp
 ·intro i
  by_cases e:i=S.slots.length
  ·simp only [aC e];omega
  ·simp only [ax e];exact h.low i
theorem Uf {S K d}(h:Lk S K d){x y:Nat}(hp:pr S x=some y):x∈K y:=by
 unfold pr at hp
 cases e:S.at x with
 | none=>rw [e] at hp;cases hp
 | some n =>
  obtain⟨o,h1,h2,h3,h4⟩:=KQ h e
  have:=Ja h e h1 h2
  unfold pr at this
  rw [this] at hp
  exact(h4 y hp).1
theorem Bd {S K d}(h:Lk S K d)(A:Nat→Prop)(hA:∀x y,x∈K y→A x→A y){a:Nat}(ha:¬A a):∀(f:Nat) (o:Option Nat),(∀x,o=some x→A x)→mX S a f o=false
 | 0,_,_=>rfl
 | f+1,none,_=>rfl
 | f+1,some x,ho=>by
  have hx:=ho x rfl
  show(a == x || mX S a f (pr S x))=false
  have hne:(a == x)=false:=by simp;rintro rfl;exact ha hx
  rw [hne,iE]
  exact Bd h A hA ha f (pr S x) (fun y hy=>hA x y (Uf h hy) hx)
theorem Qn {K:Nat→List Nat}{c:Nat}(h:K c=[]):∀f,hgt K f c=1
 | 0=>rfl
 | f+1=>by unfold hgt;rw [h];rfl
def NC (c:UInt8):Prop:=c=98∨c=105∨c=112
def Ws (n:Nd):Prop:=n.kind=2∧(∃c,NC c∧n.name=[c])∧n.av=.slice none 0 0∧n.attrs=[]∧n.data=[]
def Doc (n:Nd):Prop:=n.kind=1∧n.name=[]∧n.av=.slice none 0 0∧n.attrs=[]∧n.data=[]
structure Dp (S:Tr) (K:Nat→List Nat) (d:Nat→Nat):Prop where
 lk:Lk S K d
 free:S.free=[]
 root:S.root=S.hd 0
 used:∀i,i < S.slots.length→(S.at i).isSome=true
 doc:∃n,S.at 0=some n∧Doc n
 el:∀i n,i≠0→S.at i=some n→Ws n
 top:∀p,0∉K p
 one:(K 0).length≤1
def vO (k:Int)(name:List UInt8):Nd:=⟨k,name,.slice none 0 0,[],[],0,0,0,0,0⟩
theorem Dp.pos {S K d}(h:Dp S K d):0 < S.slots.length:=by obtain⟨n,hn,_⟩:=h.doc;exact iy hn
theorem Dp.snoc {S K d}(h:Dp S K d){c:UInt8}(hn:NC c)(hl:S.slots.length < 1000000):Dp (S.snoc (vO 2 [c])) K (fun x=>if x=S.slots.length then 1 else d x):=by
 have h0:=h.pos
 refine⟨h.lk.snoc rfl rfl rfl rfl rfl hl,h.free,h.root,?_,?_,?_,h.top,h.one⟩
 ·intro i hi
  rw [vF] at hi
  rw [mQ]
  by_cases e:i=S.slots.length
  ·rw [aC e];rfl
  ·rw [ax e];exact h.used i (by omega)
 ·obtain⟨n,hn,hd⟩:=h.doc
  exact⟨n,by rw [mQ,ax (by omega)];exact hn,hd⟩
 ·intro i n hi hx
  rw [mQ] at hx
  by_cases e:i=S.slots.length
  ·rw [aC e] at hx;cases hx;exact⟨rfl,⟨c,hn,rfl⟩,rfl,rfl,rfl⟩
  ·rw [ax e] at hx;exact h.el i n hi hx
theorem Dp.RF {S K d}(h:Dp S K d){p c:Nat}{np nc:Nd}(hp:S.at p=some np)(hc:S.at c=some nc)(hc0:c≠0)(hp0:p=0→K 0=[])(A:Nat→Prop)(hA:∀x y,x∈K y→A x→A y)(ha:¬A c)(hpA:A p):nU S K d p c np nc=true:=by
 unfold nU
 rw [Bd h.lk A hA ha _ _ (fun x hx=>by cases hx;exact hpA),(h.el c nc hc0 hc).1]
 by_cases e:p=0
 ·subst e
  obtain⟨n,hn0,hd⟩:=h.doc
  rw [hp] at hn0
  cases hn0
  rw [hd.1,hp0 rfl]
  simp
 ·rw [(h.el p np e hp).1]
  simp
end Go.Proofs.YtfelmdkeaacfeaaGreatDoor.W
end
