/- Texts joined: Mat. -/
import Derived.Test.YtfelmdkeaacfeaaGreatDoorTB1
import Derived.Test.YtfelmdkeaacfeaaGreatDoorTB28
import Derived.RegionTactic
import Derived.BigRegion
set_option maxRecDepth 100000
set_option maxHeartbeats 40000000
set_option linter.unusedVariables false
set_option linter.unusedSimpArgs false
section
namespace Go.Proofs.YtfelmdkeaacfeaaGreatDoor.W
open Go.RowKit
def Q4 (Hs:List Int)(r:Rc):Rc:={ r with target:=hnd Hs r.target,node:=hnd Hs r.node,prev:=hnd Hs r.prev,next:=hnd Hs r.next }
theorem GU {w : World} {v : Value} {l : List Rc} (h : Own w 41 11 v l.length (rows encR l)) {k : Nat} {r : Rc} (hr : l[k]? = some r) : ∃ g c, v = .slice (some ⟨g, 0, none⟩) l.length c ∧ g < w.heap.size ∧
    (w.cell? ⟨g, k * 11, none⟩ = some (.int .i64 r.kind) ∧ w.cell? ⟨g, k * 11 + 1, none⟩ = some (.int .i64 r.target) ∧ w.cell? ⟨g, k * 11 + 2, none⟩ = some (.int .i64 r.node) ∧ w.cell? ⟨g, k * 11 + 3, none⟩ = some (.int .i64 r.prev) ∧ w.cell? ⟨g, k * 11 + 4, none⟩ = some (.int .i64 r.next) ∧ w.cell? ⟨g, k * 11 + 5, none⟩ = some (.int .i64 r.index) ∧
     w.cell? ⟨g, k * 11 + 6, none⟩ = some (.string ⟨r.name.toArray⟩) ∧ w.cell? ⟨g, k * 11 + 7, none⟩ = some (.string ⟨r.old.toArray⟩) ∧ w.cell? ⟨g, k * 11 + 8, none⟩ = some (.bool r.had) ∧ w.cell? ⟨g, k * 11 + 9, none⟩ = some (.int .i64 r.count) ∧ w.cell? ⟨g, k * 11 + 10, none⟩ = some (.int .i64 r.size)) := by
  have hk := (ai.1 hr).1
  obtain ⟨g, c, rfl, _⟩ := sK h (by omega)
  have hq : ∀ j, j < 11 → w.cell? ⟨g, k * 11 + j, none⟩ = (encR r)[j]? := fun j hj => by
    rw [h.cellAt (k * 11 + j) (by omega)]
    exact CJ (enc := encR) JA l k r hr j hj
  exact ⟨g, c, rfl, jy h (k := g) rfl, hq 0 (by omega), hq 1 (by omega), hq 2 (by omega), hq 3 (by omega), hq 4 (by omega), hq 5 (by omega), hq 6 (by omega), hq 7 (by omega), hq 8 (by omega), hq 9 (by omega), hq 10 (by omega)⟩
theorem DC {w : World} {v : Value} {l : List Rc} (h : Own w 144 11 v l.length (rows encR l)) {k : Nat} {r : Rc} (hr : l[k]? = some r) : ∃ g c, v = .slice (some ⟨g, 0, none⟩) l.length c ∧ g < w.heap.size ∧
    (w.cell? ⟨g, k * 11, none⟩ = some (.int .i64 r.kind) ∧ w.cell? ⟨g, k * 11 + 1, none⟩ = some (.int .i64 r.target) ∧ w.cell? ⟨g, k * 11 + 2, none⟩ = some (.int .i64 r.node) ∧ w.cell? ⟨g, k * 11 + 3, none⟩ = some (.int .i64 r.prev) ∧ w.cell? ⟨g, k * 11 + 4, none⟩ = some (.int .i64 r.next) ∧ w.cell? ⟨g, k * 11 + 5, none⟩ = some (.int .i64 r.index) ∧
     w.cell? ⟨g, k * 11 + 6, none⟩ = some (.string ⟨r.name.toArray⟩) ∧ w.cell? ⟨g, k * 11 + 7, none⟩ = some (.string ⟨r.old.toArray⟩) ∧ w.cell? ⟨g, k * 11 + 8, none⟩ = some (.bool r.had) ∧ w.cell? ⟨g, k * 11 + 9, none⟩ = some (.int .i64 r.count) ∧ w.cell? ⟨g, k * 11 + 10, none⟩ = some (.int .i64 r.size)) := by
  have hk := (ai.1 hr).1
  obtain ⟨g, c, rfl, _⟩ := sK h (by omega)
  have hq : ∀ j, j < 11 → w.cell? ⟨g, k * 11 + j, none⟩ = (encR r)[j]? := fun j hj => by
    rw [h.cellAt (k * 11 + j) (by omega)]
    exact CJ (enc := encR) JA l k r hr j hj
  exact ⟨g, c, rfl, jy h (k := g) rfl, hq 0 (by omega), hq 1 (by omega), hq 2 (by omega), hq 3 (by omega), hq 4 (by omega), hq 5 (by omega), hq 6 (by omega), hq 7 (by omega), hq 8 (by omega), hq 9 (by omega), hq 10 (by omega)⟩
theorem qm {w:World}{g:Nat}{cs:List Value}{t:TypeId}(e:g=w.heap.size):dD (w.alloc (.cells cs.toArray t)) g cs t:=e ▸ dD.new w cs t
theorem lI {w:World}{g:Nat}{cs:List Value}{t:TypeId}(h:dD w g cs t):dD w.drew g cs t:=h
def Wy (w:World)(n:Nat)(iv:Value)(wr:World):Prop:=∃k:Nat,k≤n∧iv=.int .i64 (k:Int)∧Below w.heap.size w wr
def VO (wr:World)(cy cz:List Value)(pv qv:Value)(wx:World):Prop:=∃pa qb,pv=.pointer (some ⟨pa,0,none⟩)∧qv=.pointer (some ⟨qb,0,none⟩)∧dD wx pa cy 41∧dD wx qb cz 144∧Below wr.heap.size wr wx
def nI (v:Int):Prop:=-100000≤v∧v≤100000
theorem Lc {w:World}{g:Nat}{a b hv v1 v2:Value}{Hs:List Int}{l m:List Rc}(h:dD w g [a,b,hv] 33)(ho:Own w 3 1 hv Hs.length (hC Hs))(hl:Hs.length≤100000)(h1:Own w 41 11 v1 l.length (rows encR l))(h2:Own w 144 11 v2 m.length (rows encR m))
  (heq:l=m.map (Q4 Hs))(hr:∀r∈m,nI r.target∧nI r.node∧nI r.prev∧nI r.next)(hll:l.length≤100) :
  Calls Tryz.prog 50 #[.pointer (some ⟨g,0,none⟩),v1,v2] w fun e w'=>e=.returned (.bool true)∧Below w.heap.size w w':=by
 have hlen:l.length=m.length:=by rw [heq,bM]
 obtain⟨a1,c1,rfl⟩:=aW h1
 obtain⟨a2,c2,rfl⟩:=aW h2
 rw [← hlen]
 have H1:=ae h1
 have H2:=ae h2
 have HH:=ae (fun wx (hb:Below w.heap.size w wx) v (hv:nI v)=>ry (h.below hb) (bH ho hb) hl v hv.1 hv.2)
 have HQ:=ae heq
 have HR:=ae hr
 clear h1 h2 heq hr h ho
 go_enter Tryz.func50,Tryz.ntmps50
 go_wp2_with fail
 go_loopw [7] (fun iv wr=>Wy w l.length iv wr) (fun iv _=>l.length - iW iv)
 case atStart=>exact⟨0,aZ _,rfl,ak _ _⟩
 case round =>
  obtain⟨k,hk,rfl,hB⟩:=hrel
  by_cases hkl:k < l.length
  ·have hki:(k:Int) < (l.length:Int):=by omega
   obtain⟨y,hy⟩:∃y,l[k]? = some y:=⟨_,ay hkl⟩
   obtain⟨z,hz⟩:∃z,m[k]? = some z:=⟨_,ay (by omega)⟩
   have hyz:y=Q4 Hs z:=by
    have:=HQ.out
    rw [this,bI,hz] at hy
    exact(cO hy).symm
   have hzr:=HR.out z (ah hz)
   obtain⟨g1,k1,he,qlt,q0,q1,q2,q3,q4,q5,q6,q7,q8,q9,q10⟩:=GU (bH H1.out hB) hy
   simp only [bD,je] at he
   obtain⟨rfl,rfl⟩:=he
   obtain⟨g2,k2,he,plt,p0,p1,p2,p3,p4,p5,p6,p7,p8,p9,p10⟩:=DC (bH H2.out hB) hz
   simp only [bD,je] at he
   obtain⟨rfl,rfl⟩:=he
   obtain⟨z0,z1,z2,z3,z4,z5,z6,z7,z8,z9,z10⟩:=z
   subst hyz
   simp only [Q4] at q0 q1 q2 q3 q4 q5 q6 q7 q8 q9 q10 p0 p1 p2 p3 p4 p5 p6 p7 p8 p9 p10 hzr
   obtain⟨r1,r2,r3,r4⟩:=hzr
   have HH1:=ae (fun wx hb=>HH.out wx hb z1 r1)
   have HH2:=ae (fun wx hb=>HH.out wx hb z2 r2)
   have HH3:=ae (fun wx hb=>HH.out wx hb z3 r3)
   have HH4:=ae (fun wx hb=>HH.out wx hb z4 r4)
   clear r1 r2 r3 r4
   generalize (⟨z6.toArray⟩:ByteArray)=t6 at *
   generalize (⟨z7.toArray⟩:ByteArray)=t7 at *
   generalize hnd Hs z1=y1 at *
   generalize hnd Hs z2=y2 at *
   generalize hnd Hs z3=y3 at *
   generalize hnd Hs z4=y4 at *
   go_upto_region 6 with fail
   go_cut [8,9] (fun pv qv wx=>VO wr [.int .i64 z0,.int .i64 y1,.int .i64 y2,.int .i64 y3,.int .i64 y4,.int .i64 z5,.string t6,.string t7,.bool z8,.int .i64 z9,.int .i64 z10] [.int .i64 z0,.int .i64 z1,.int .i64 z2,.int .i64 z3,.int .i64 z4,.int .i64 z5,.string t6,.string t7,.bool z8,.int .i64 z9,.int .i64 z10] pv qv wx)
   case first =>
    clear hy hz HH1 HH2 HH3 HH4 HH HQ HR H1 H2
    go_region
    all_goals
     go_wp2_with fail
     go_meet
     first
     | exact⟨_,_,rfl,rfl,lI (qm (by simp)),lI (dD.alloc (qm rfl) _),(((ak wr.heap.size wr).alloc (au _) _).alloc (by simp) _).drew⟩
     | exact⟨_,_,rfl,rfl,lI (dD.alloc (qm rfl) _),lI (qm (by simp)),(((ak wr.heap.size wr).alloc (au _) _).alloc (by simp) _).drew⟩
   case rest =>
    obtain⟨pa,qb,rfl,rfl,ka,kb,hb8⟩:=hcut
    clear q0 q1 q2 q3 q4 q5 q6 q7 q8 q9 q10 p0 p1 p2 p3 p4 p5 p6 p7 p8 p9 p10 hy hz HH HQ HR H1 H2
    have HB8:=ae (hB.trans (hb8.mono hB.size))
    go_upto_region 7 with fail
    have hne:=gI wc
    have xa:=fun(x:dS (jc wc))=>ka.below x.h
    have xb:=fun(x:dS (jc wc))=>kb.below x.h
    have a0:=fun x=>(xa x).cell 0
    have b0:=fun x=>(xb x).cell 0
    have a1:=fun x=>(xa x).cell 1
    have b1:=fun x=>(xb x).cell 1
    have a2:=fun x=>(xa x).cell 2
    have b2:=fun x=>(xb x).cell 2
    have a3:=fun x=>(xa x).cell 3
    have b3:=fun x=>(xb x).cell 3
    have a4:=fun x=>(xa x).cell 4
    have b4:=fun x=>(xb x).cell 4
    have a5:=fun x=>(xa x).cell 5
    have b5:=fun x=>(xb x).cell 5
    have a6:=fun x=>(xa x).cell 6
    have b6:=fun x=>(xb x).cell 6
    have a7:=fun x=>(xa x).cell 7
    have b7:=fun x=>(xb x).cell 7
    have a8:=fun x=>(xa x).cell 8
    have b8:=fun x=>(xb x).cell 8
    have a9:=fun x=>(xa x).cell 9
    have b9:=fun x=>(xb x).cell 9
    have a10:=fun x=>(xa x).cell 10
    have b10:=fun x=>(xb x).cell 10
    simp only [fQ,fP] at a0 a1 a2 a3 a4 a5 a6 a7 a8 a9 a10 b0 b1 b2 b3 b4 b5 b6 b7 b8 b9 b10
    clear xa xb ka kb
    refine KL (jc wc) (fun _=>jc wc) (by kernel_rfl) (by kernel_rfl) (by kernel_rfl) (fun _ _ h=>h) ((ak _ _).drew) ?_
    simp only [List.append_eq,List.cons_append,List.nil_append]
    repeat (first
     | (refine kY (by rfl) (fun K hK=>?_);go_big_quiet_step (fail);refine az ?_;refine hK.out _ ?_;clear hK K)
     | (refine kW (by rfl) ?_;simp only [Act.put,dL,dK,dJ]))
    refine nN (.int .i64 y1) (by rfl) (by rfl) (fun w=>by go_simp;exact⟨rfl,rfl⟩) ?_ ?_
    ·intro wx hx
     refine(HH1.out _ (aV HB8.out hx)).mono ?_
     rintro e wy ⟨rfl,hb⟩
     exact⟨rfl,by rw [hb];exact hx⟩
    simp only [Act.put,dL,dK,dJ]
    repeat (first
     | (refine kY (by rfl) (fun K hK=>?_);go_big_quiet_step (fail);refine az ?_;refine hK.out _ ?_;clear hK K)
     | (refine kW (by rfl) ?_;simp only [Act.put,dL,dK,dJ]))
    refine nN (.int .i64 y2) (by rfl) (by rfl) (fun w=>by go_simp;exact⟨rfl,rfl⟩) ?_ ?_
    ·intro wx hx
     refine(HH2.out _ (aV HB8.out hx)).mono ?_
     rintro e wy ⟨rfl,hb⟩
     exact⟨rfl,by rw [hb];exact hx⟩
    simp only [Act.put,dL,dK,dJ]
    repeat (first
     | (refine kY (by rfl) (fun K hK=>?_);go_big_quiet_step (fail);refine az ?_;refine hK.out _ ?_;clear hK K)
     | (refine kW (by rfl) ?_;simp only [Act.put,dL,dK,dJ]))
    refine nN (.int .i64 y3) (by rfl) (by rfl) (fun w=>by go_simp;exact⟨rfl,rfl⟩) ?_ ?_
    ·intro wx hx
     refine(HH3.out _ (aV HB8.out hx)).mono ?_
     rintro e wy ⟨rfl,hb⟩
     exact⟨rfl,by rw [hb];exact hx⟩
    simp only [Act.put,dL,dK,dJ]
    repeat (first
     | (refine kY (by rfl) (fun K hK=>?_);go_big_quiet_step (fail);refine az ?_;refine hK.out _ ?_;clear hK K)
     | (refine kW (by rfl) ?_;simp only [Act.put,dL,dK,dJ]))
    refine nN (.int .i64 y4) (by rfl) (by rfl) (fun w=>by go_simp;exact⟨rfl,rfl⟩) ?_ ?_
    ·intro wx hx
     refine(HH4.out _ (aV HB8.out hx)).mono ?_
     rintro e wy ⟨rfl,hb⟩
     exact⟨rfl,by rw [hb];exact hx⟩
    simp only [Act.put,dL,dK,dJ]
    repeat (first
     | (refine kY (by rfl) (fun K hK=>?_);go_big_quiet_step (fail);refine az ?_;refine hK.out _ ?_;clear hK K)
     | (refine kW (by rfl) ?_;simp only [Act.put,dL,dK,dJ]))
    refine Ku ?_
    intro w9 hb9
    have HB9:=ae (aV HB8.out hb9)
    clear a0 a1 a2 a3 a4 a5 a6 a7 a8 a9 a10 b0 b1 b2 b3 b4 b5 b6 b7 b8 b9 b10 hne hb9
    go_wp2_with fail
    exact⟨⟨k+1,by omega,by go_num,HB9.out⟩,by simp only [iW];omega⟩
  ·obtain rfl:k=l.length:=by omega
   go_wp2_with fail
   go_ret
   exact⟨rfl,hB⟩
end Go.Proofs.YtfelmdkeaacfeaaGreatDoor.W
end
