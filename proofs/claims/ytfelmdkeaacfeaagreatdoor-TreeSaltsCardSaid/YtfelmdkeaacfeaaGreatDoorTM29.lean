/- Texts joined: Col ADr TDr Mwlk. -/
import Derived.Test.YtfelmdkeaacfeaaGreatDoorTM1
import Derived.Test.YtfelmdkeaacfeaaGreatDoorTM27
import Derived.Test.YtfelmdkeaacfeaaGreatDoorTM28
import Derived.Test.YtfelmdkeaacfeaaGreatDoorTM23
import Derived.BigRegion
import Derived.Test.YtfelmdkeaacfeaaGreatDoorTM19
import Derived.Test.YtfelmdkeaacfeaaGreatDoorTM17
import Derived.LoopTactic
import Derived.RegionTactic
set_option maxRecDepth 100000
set_option maxHeartbeats 40000000
set_option linter.unusedVariables false
set_option linter.unusedSimpArgs false
section
namespace Go.Proofs.YtfelmdkeaacfeaaGreatDoor.W
open Go.RowKit
attribute [local go_sem] Oper.semAt_some
theorem wpListIn_append_B {F:Fence}{n0:Nat}{P:Program}{t e:TypeId}{size bytes:Nat}(hT:ET P t e size bytes){B:Nat}{w:World}{dv:Value}{n:Nat}{xs:List Value}(hown:w.ownsRow B e size dv n xs)(hB:B≤w.heap.size)
  {g m cap:Nat}{ys:List Value}(hs:Own w e size (.slice (some ⟨g,0,none⟩) m cap) m ys)(h1:∀u∈ys,u.oneCell'=true)(hlen:n+m≤1000000000)(hby:bytes≤1000)
  {ops:Array Oper}{rest:List Oper}{o:Oper}{a:Act}{Q:Exit→Act→World→Prop}(hg:o.guard=none)(s x:Operand)(hop:o.op=Op.call { callee:=Callee.builtin Builtin.append,args:=#[s,x],argTypes:=#[t,t] })(hd:a.eval s=dv)(hx:a.eval x=.slice (some ⟨g,0,none⟩) m cap)
  (hK:∀v' w',w'.ownsRow B e size v' (n+m) (xs ++ ys)→w.grownBy w' dv.ownBlock→(v'.ownBlock=dv.ownBlock∨v'.ownBlock=some w.heap.size)→wpListIn F n0 P ops Q rest (a.put o.dst v') w') :
  wpListIn F n0 P ops Q (o :: rest) a w:=by
 refine wpListIn_plain hg fun K hK'=>?_
 obtain⟨v',w',hrun,r1,r2,r3⟩:=run_append_B (ty:=o.type) hT hown hB hs h1 hlen hby
 unfold Oper.wpIn
 refine⟨?_,?_⟩
 ·simp [Oper.about,hop,resolve,Target.leads,Sem.run_pure]
 ·rw [Oper.semAt_plain F _ _ (by rw [hop];intro c hc';cases hc')]
  simp [execOp,hop,resolve,invoke,builtin,hd,hx,hrun,Result.andThen]
  exact hK' _ _ (hK v' w' r1 r2 r3)
theorem KpS.put2 {b:Nat}{W:World}(l:Nat)(o o':Obj)(h:W.heap[l]? = some o)(ho:o.isCells=false)(hb:b≠l):KpS b W (W.putObj l o'):=by
 have hne:∀(k:Nat) (cs:Array Value) (t:TypeId) (fr:Nat×Nat),W.heap[k]? = some (Obj.cells cs t fr)→k≠l:=fun k cs t fr hk e=>by
  subst e;rw [hk] at h;cases h;cases ho
 refine⟨by simp,fun k cs t fr hk _ _=>(World.putObj_heap_other (hne k cs t fr hk)).trans hk,.inl ?_⟩
 unfold slB
 have e:(W.putObj l o').heap[b]? = W.heap[b]?:=World.putObj_heap_other hb
 unfold World.cell?
 simp only [e]
def ColI (S:Tr)(w:World)(pre:List Nat)(W:World):Prop :=
 ∃v,Blk W w.heap.size [v] 31∧W.ownsRow w.heap.size 3 1 v pre.length (hC (pre.map S.hd))∧Below w.heap.size w W
def putC (x:Value)(a:Act):Act:={ tmps:=(a.tmps.setIfInBounds 7 x).setIfInBounds 5 x,defers:=[] }
theorem appendSeq_any {xs:List Nat}{S:Tr}{w:World}{gf:Nat}{lb:Array Value}(eg:∀args w,(callFunc gf args).run Tryz.prog w=.ok (.enter gf args) w)(hN:xs.length≤1000000)
  (hseq:∀n,SeqStopsK Fence.wide n Tryz.prog gf lb (fun x:Nat=>#[Value.int .i64 (S.hd x)]) (KpS w.heap.size) (fun ys=>ys=xs) (fun _=>True) xs.length (w.alloc (.cells #[.slice none 0 0] 31))) :
  Calls Tryz.prog 111 #[.slice none 0 0,.func (.func gf) #[] lb] w fun e w'=>∃v,e=.returned v∧w'.ownsRow w.heap.size 3 1 v xs.length (hC (xs.map S.hd))∧Below w.heap.size w w':=by
 refine(callsIn_wide (n:=8)).1 ?_
 refine callsIn_of_wp_marks Tryz.func111 rfl trivial ?_ rfl
 simp only [Tryz.ntmps111,List.size_toArray,List.length_cons,List.length_nil,Nat.reduceAdd,Nat.reduceSub,Array.replicate_succ,Array.replicate_zero,List.push_toArray,List.append_toArray,List.nil_append,List.cons_append]
 have k1:=Blk.new w [.slice none 0 0] 31
 have hb1:=(Below.refl w.heap.size w).alloc (Nat.le_refl _) (.cells #[.slice none 0 0] 31)
 have hs1:w.heap.size < (w.alloc (.cells #[.slice none 0 0] 31)).heap.size:=by simp
 have HS:=Lib.hid (hseq 7)
 clear hseq
 gi_wp2
 refine rangeFunc_put (fun x=>putC (.int .i64 (S.hd x))) (by omega) (gf:=gf) (lb:=lb) rfl eg HS.out KpS.trans (fun W l o o' hl h hc _=>KpS.put2 l o o' h hc (by omega)) (fun _=>rfl)
  (fun pre W=>ColI S w pre W) (fun c pre W=>False) ?own (fun _ _ _ _ _ hs _ _=>hs) ⟨.slice none 0 0,k1,World.ownsRow_nil _ _ _ _,hb1⟩ ?assign ?body ?done ?stop
 case own =>
  intro pre W W' row hs hg hr
  obtain⟨v,hb,ho,hB⟩:=hs
  refine⟨v,blk_own hb hg hr,own_kB ho (fun k hk=>hg.block k (ho.lt k hk).2 (fun e=>?_)),hB.grown hg hB.size (fun k e=>by have:=(hr k e).1;omega)⟩
  obtain⟨_,o,h1,h2⟩:=hr k e.symm
  obtain⟨cur,hc⟩:=own_ty ho hk
  rw [hc] at h1;cases h1;cases h2
 case assign =>
  intro l x W K hK
  gi_wp2
  exact hK
 case body =>
  intro l pre x W hI hlt
  obtain⟨v,hb,ho,hB⟩:=hI
  obtain⟨va,vc,rfl⟩:=own_shapeB ho
  have c0:=hb.cell 0
  have f0:=hb.free 0
  simp only [List.getElem?_cons_zero] at c0
  have hbl:=hb.lt
  have HO:=Lib.hid ho
  have HBx:=Lib.hid hb
  have HB:=Lib.hid hB
  have hlt2:pre.length < 1000000:=by omega
  clear hb ho hB hlt HS
  simp only [putC,zzA,zzB,zzC]
  have hb1:Below W.heap.size W (W.alloc (.cells #[.int .i64 (S.hd x)] 3)):=(Below.refl _ _).alloc (Nat.le_refl _) _
  gi_wp2_with (first
   | (gi_at_builtin;refine wpListIn_append_B etI (own_keepB HO.out hb1) (by simp;omega) (own_at (n:=1) (size:=1) (Blk.new W [.int .i64 (S.hd x)] 3) rfl (by omega)) (by intro u hu;simp at hu;subst hu;rfl) (by omega) (by omega) rfl _ _ rfl rfl rfl ?_;intro v' w2 ho2 hg2 hv2;
       obtain⟨va',vc',rfl⟩:=own_shapeB ho2;have kb2:=(Blk.below HBx.out hb1).kept (hg2.block w.heap.size (by simp;omega) (fun e=>by
        obtain⟨cur,hc⟩:=own_ty HO.out e.symm
        exact blk_ne hc HBx.out (by decide) rfl));
       have d0:=kb2.cell 0;have e0:=kb2.free 0;simp only [List.getElem?_cons_zero] at d0;have HO2:=Lib.hid ho2;have HG2:=Lib.hid hg2;have HV2:=Lib.hid hv2;have HK2:=Lib.hid kb2;clear ho2 hg2 hv2 kb2)
   | gi_in)
  have hO1:=own_keepB HO.out hb1
  have hg:=HG2.out
  have hw1:(W.alloc (.cells #[.int .i64 (S.hd x)] 3)).heap.size=W.heap.size+1:=by simp
  have kb3:=HK2.out.set 0 (.slice va' (pre.length+1) vc')
  simp only [List.set_cons_zero] at kb3
  have e1:slB w.heap.size W=(Value.slice va pre.length vc).ownBlock:=by unfold slB;rw [c0];rfl
  have e3:slB w.heap.size (w2.setCell ⟨w.heap.size,0,none⟩ (.slice va' (pre.length+1) vc'))=(Value.slice va' (pre.length+1) vc').ownBlock:=by
   unfold slB
   have:=kb3.cell 0
   simp only [List.getElem?_cons_zero] at this
   rw [this];rfl
  have hne2:∀k,(Value.slice va' (pre.length+1) vc').ownBlock=some k→k≠w.heap.size:=fun k hk e=>by
   obtain⟨cur,hc⟩:=own_ty HO2.out hk
   subst e
   exact blk_ne hc HK2.out (by decide) rfl
  refine⟨(keeps_below hb1).trans (KeepsOthers.trans ⟨hg.size,fun k o hk ho=>(hg.block k (Array.getElem?_eq_some_iff.1 hk).1 (fun e=>by
   obtain⟨cur,hc⟩:=own_ty hO1 e.symm
   rw [hc] at hk;cases hk;cases ho)).trans hk⟩ (KeepsOthers.setCell _ _ _)),⟨?_,?_,?_⟩,?_⟩
  ·have:=hg.size
   simp only [World.setCell,Array.size_modify]
   omega
  ·intro k cs t fr hk h1 h2
   rw [e1] at h2
   have hkl:=(Array.getElem?_eq_some_iff.1 hk).1
   exact(Below.heap_setCell _ _ _ _ h1).trans ((hg.block k (by omega) (fun e=>h2 e.symm)).trans ((hb1.block k hkl).trans hk))
  ·rw [e1,e3]
   rcases HV2.out with e | e
   ·exact .inl e
   ·refine .inr (fun k hk=>?_)
    rw [e] at hk
    cases hk
    refine⟨by omega,?_⟩
    have:=(HO2.out.lt _ e).2
    simpa [World.setCell] using this
  ·refine⟨.slice va' (pre.length+1) vc',kb3,?_,?_⟩
   ·rw [show(pre ++ [x]).length=pre.length+1 by simp,show hC ((pre ++ [x]).map S.hd)=hC (pre.map S.hd) ++ [.int .i64 (S.hd x)] by simp [hC]]
    exact own_kB HO2.out (fun k hk=>Below.heap_setCell _ _ _ _ (hne2 k hk))
   ·exact((HB.out.alloc HB.out.size (.cells #[.int .i64 (S.hd x)] 3)).grown hg (by have:=HB.out.size;omega) (fun k e=>(hO1.lt k e).1)).setCell (p:=⟨w.heap.size,0,none⟩) (Nat.le_refl _) _
 case done =>
  rintro D ys W hD rfl hI hK
  obtain⟨v,hb,ho,hB⟩:=hI
  obtain⟨va,vc,rfl⟩:=own_shapeB ho
  have c0:=hb.cell 0
  simp only [List.getElem?_cons_zero] at c0
  have HO:=Lib.hid ho
  have HB:=Lib.hid hB
  have HK:=Lib.hid hK
  have hDl:D < W.heap.size:=(Array.getElem?_eq_some_iff.1 hK).1
  clear hb ho hB hK HS
  gi_wp2
  refine one_mark HK.out ?_
  refine⟨.slice va ys.length vc,?_,.slice va ys.length vc,rfl,own_kB HO.out (fun k hk=>World.putObj_heap_other (fun e=>?_)),below_put _ HB.out (by omega) hDl⟩
  ·simp [results,Tryz.f111,go_sem]
  ·obtain⟨cur,hc⟩:=own_ty HO.out hk
   rw [e,HK.out] at hc
   cases hc
 case stop =>
  intro D c pre W hD hs hx
  cases hx
theorem collect_any {xs:List Nat}{S:Tr}{w:World}{gf:Nat}{lb:Array Value}(eg:∀args w,(callFunc gf args).run Tryz.prog w=.ok (.enter gf args) w)(hN:xs.length≤1000000)
  (hseq:∀n,SeqStopsK Fence.wide n Tryz.prog gf lb (fun x:Nat=>#[Value.int .i64 (S.hd x)]) (KpS w.heap.size) (fun ys=>ys=xs) (fun _=>True) xs.length (w.alloc (.cells #[.slice none 0 0] 31))) :
  Calls Tryz.prog 68 #[.func (.func gf) #[] lb] w fun e w'=>∃v,e=.returned v∧w'.ownsRow w.heap.size 3 1 v xs.length (hC (xs.map S.hd))∧Below w.heap.size w w':=by
 have H:=Lib.hid (appendSeq_any eg hN hseq)
 clear hseq
 go_enter Tryz.func68,Tryz.ntmps68
 go_wp2_with fail
 refine H.out.mono ?_
 rintro e w2 ⟨v,rfl,ho,hb⟩
 go_wp2_with fail
 go_ret
 exact⟨v,rfl,ho,hb⟩
end Go.Proofs.YtfelmdkeaacfeaaGreatDoor.W
end
section
namespace Go.Proofs.YtfelmdkeaacfeaaGreatDoor.W
open Go.RowKit
def Tr.gone (S:Tr)(i:Nat):Tr:={ S with slots:=S.slots.set i none,free:=S.free ++ [i] }
theorem live_gone:∀(l:List (Option Nd)) (i:Nat) (n:Nd),l[i]? = some (some n)→((l.set i none).filter Option.isSome).length+1=(l.filter Option.isSome).length
 | [],i,n,h=>by simp at h
 | x :: l,0,n,h=>by
  simp at h;subst h
  simp
 | x :: l,i+1,n,h=>by
  have ih:=live_gone l i n (by simpa using h)
  rw [List.set_cons_succ]
  cases x with
  | none=>simpa using ih
  | some y=>simpa using ih
theorem adrop_some {B R g cap i:Nat}{S:Tr}{fv:Value}{w:World}(h:TAt B R S (.slice (some ⟨g,0,none⟩) S.slots.length cap) fv w)(hd:Int)(hh:HOk hd)(hk:S.ix hd=some i)(hfl:S.free.length≤1000000) :
  Calls Tryz.prog 72 #[.pointer (some ⟨R,0,none⟩),.int .i64 hd] w fun e w'=>∃fv',e=.returned (.bool true) ∧
   TAt B R (S.gone i) (.slice (some ⟨g,0,none⟩) S.slots.length cap) fv' w'∧Chg (fun k=>k=R∨k=g∨fv.ownBlock=some k) w w'∧(fv'.ownBlock=fv.ownBlock∨∃k,fv'.ownBlock=some k∧w.heap.size≤k):=by
 have HF:=Lib.hid (find_some h hd hh hk)
 obtain⟨hi1,hil,n,hi⟩:=ix_some hk
 have I:=fun W=>index_any S.b S.s hd W hh.1 hh.2
 rw [hi1] at I
 have HI:=Lib.hid I
 have HHi:=Lib.hid hi
 have HT:=Lib.hid h
 have hfew:=h.few
 have hlv:S.live≤S.slots.length:=List.length_filter_le _ _
 have hgw:=(h.slots.lt g rfl).2
 have hRg:R≠g:=fun e=>by
  obtain⟨cur,hc⟩:=own_ty h.slots (g:=g) rfl
  subst e
  exact blk_ne hc h.blk (by decide) rfl
 have hRf:∀k,fv.ownBlock=some k→R≠k:=fun k hk e=>by
  obtain⟨cur,hc⟩:=own_ty h.free hk
  subst e
  exact blk_ne hc h.blk (by decide) rfl
 have hgf:∀k,fv.ownBlock=some k→g≠k:=fun k hk e=>by
  obtain⟨cur,hc⟩:=own_ty h.free hk
  obtain⟨cur',hc'⟩:=own_ty h.slots (g:=g) rfl
  subst e
  exact blk_ne hc hc' (by decide) rfl
 have hbs:B≤w.heap.size:=by have:=h.base;have:=h.blk.lt;omega
 clear I h hk hi hi1
 go_enter Tryz.func72,Tryz.ntmps72
 go_wp2_with fail
 refine HF.out.mono ?_
 rintro e w2 ⟨rfl,hb2⟩
 have hT2:=HT.out.below hb2
 have HB2:=Lib.hid hb2
 have hgw2:=(hT2.slots.lt g rfl).2
 have sc:∀j,j < 10→w2.cell? ⟨g,i*10+j,none⟩=(slotC (some n))[j]?:=fun j hj=>by
  have hl:j < (slotC (some n)).length:=by rw [slotC_len];exact hj
  rw [List.getElem?_eq_getElem hl]
  have:=hT2.slots.cells (g:=g) rfl (i*10+j) (slotC (some n))[j] (by rw [rowC_at _ _ _ HHi.out _ hj,List.getElem?_eq_getElem hl])
  rw [Go.WideShapes.add_plain,Nat.zero_add] at this
  exact this
 have s0:=sc 0 (by omega)
 have s1:=sc 1 (by omega)
 have s2:=sc 2 (by omega)
 have s3:=sc 3 (by omega)
 have s4:=sc 4 (by omega)
 have s5:=sc 5 (by omega)
 have s6:=sc 6 (by omega)
 have s7:=sc 7 (by omega)
 have s8:=sc 8 (by omega)
 have s9:=sc 9 (by omega)
 simp only [slotC,ndC,strV,zzD,zzE,Nat.add_zero] at s0 s1 s2 s3 s4 s5 s6 s7 s8 s9
 have sz:∀j,w2.frozen? ⟨g,j,none⟩=false:=fun j=>by
  rcases hT2.slots.2 with ⟨e,_⟩ | ⟨g',cap',cur,e,_,hh,_⟩
  ·cases e
  ·cases e;exact Lib.frozen_of_heap hh _
 have HS2:=Lib.hid hT2.slots
 have HR2:=Lib.hid hT2.blk
 clear sc hT2 hb2 HF
 go_upto_region 5 with fail
 have hrow:=(own_setB (own_setB (own_setB (own_setB (own_setB (own_setB (own_setB (own_setB (own_setB (own_setB HS2.out (i*10) (.bool false)) (i*10+1) (.int .i64 0)) (i*10+2) (.string ⟨#[]⟩)) (i*10+3) (.slice none 0 0)) (i*10+4) (.string ⟨#[]⟩)) (i*10+5) (.int .i64 0)) (i*10+6) (.int .i64 0)) (i*10+7) (.int .i64 0)) (i*10+8) (.int .i64 0)) (i*10+9) (.int .i64 0))
 have hset:rowC (S.slots.set i none)=_:=rowC_put S.slots i none hil
 simp only [slotC,zeroC,strV,setAll] at hset
 have hch2:=(((((((((((Chg.refl (fun k=>k=g) w2).setCell ⟨g,i*10,none⟩ (fun _=>(rfl:g=g)) (.bool false)).setCell ⟨g,i*10+1,none⟩ (fun _=>(rfl:g=g)) (.int .i64 0)).setCell ⟨g,i*10+2,none⟩ (fun _=>(rfl:g=g)) (.string ⟨#[]⟩)).setCell ⟨g,i*10+3,none⟩ (fun _=>(rfl:g=g)) (.slice none 0 0)).setCell ⟨g,i*10+4,none⟩ (fun _=>(rfl:g=g)) (.string ⟨#[]⟩)).setCell ⟨g,i*10+5,none⟩ (fun _=>(rfl:g=g)) (.int .i64 0)).setCell ⟨g,i*10+6,none⟩ (fun _=>(rfl:g=g)) (.int .i64 0)).setCell ⟨g,i*10+7,none⟩ (fun _=>(rfl:g=g)) (.int .i64 0)).setCell ⟨g,i*10+8,none⟩ (fun _=>(rfl:g=g)) (.int .i64 0)).setCell ⟨g,i*10+9,none⟩ (fun _=>(rfl:g=g)) (.int .i64 0))
 have hR3:=HR2.out.chg hch2 (fun e=>hRg e)
 have hlt3:=hR3.lt
 have HRow:=Lib.hid hrow
 have HSet:=Lib.hid hset
 have HCn:=Lib.hid ((Chg.of_below (F:=fun k=>k=g) HB2.out).trans hch2 (fun _ _ e=>e))
 have HR3:=Lib.hid hR3
 clear hrow hset hch2 hR3 s0 s1 s2 s3 s4 s5 s6 s7 s8 s9 sz HS2 HR2
 generalize ((((((((((w2.setCell ⟨g,i*10,none⟩ (.bool false)).setCell ⟨g,i*10+1,none⟩ (.int .i64 0)).setCell ⟨g,i*10+2,none⟩ (.string ⟨#[]⟩)).setCell ⟨g,i*10+3,none⟩ (.slice none 0 0)).setCell ⟨g,i*10+4,none⟩ (.string ⟨#[]⟩)).setCell ⟨g,i*10+5,none⟩ (.int .i64 0)).setCell ⟨g,i*10+6,none⟩ (.int .i64 0)).setCell ⟨g,i*10+7,none⟩ (.int .i64 0)).setCell ⟨g,i*10+8,none⟩ (.int .i64 0)).setCell ⟨g,i*10+9,none⟩ (.int .i64 0))=W at *
 have c0:=HR3.out.cell 0
 have c1:=HR3.out.cell 1
 have c3:=HR3.out.cell 3
 have cf:=HR3.out.free
 simp only [zzD,zzE] at c0 c1 c3
 have HC2:=Lib.hid (HCn.out.mono (G:=fun k=>k=R∨k=g∨fv.ownBlock=some k) (fun k _ e=>.inr (.inl e)))
 have hbw:w.heap.size≤W.heap.size:=HC2.out.size
 have hfrW:W.ownsRow B 3 1 fv S.free.length (S.free.map fun i=>.int .i64 (i:Nat)):=own_kB HT.out.free (fun b hb=>HCn.out.block b (HT.out.free.lt b hb).2 (fun e=>hgf b hb e.symm))
 have HFr:=Lib.hid hfrW
 obtain⟨fa,fc,rfl⟩:=own_shapeB hfrW
 clear hfrW
 go_region_law (first
  | (refine step_append_B etI (own_keepB HFr.out ((Below.refl W.heap.size W).drew.trans (hb3.mono (Nat.le_refl _)) |>.alloc (by have:=hb3.size;simpa using this) _)) (by have:=hb3.size;simp at this ⊢;omega) (own_at (n:=1) (size:=1) (Blk.new w3 [.int .i64 (i:Int)] 3) rfl (by omega)) (by intro u hu;simp at hu;subst hu;rfl) (by omega) (by omega) (by rfl) _ _ (by rfl) (by rfl) (by rfl) ?_;intro v' w4 ho hgr hvb;
      obtain⟨va,vc,rfl⟩:=own_shapeB ho;
      have b4:Blk w4 R _ _:=((Blk.below (w:=W.drew) HR3.out hb3).alloc (.cells #[.int .i64 (i:Int)] 3)).kept (hgr.block R (by have:=hb3.size;simp at this ⊢;omega) (fun e=>hRf R e.symm rfl));
      have c43:=b4.cell 3;have c44:=b4.cell 4;have cf4:=b4.free;simp only [zzD,zzE] at c43 c44;
      have HB3:=Lib.hid hb3;have HR4:=Lib.hid b4;have HO4:=Lib.hid ho;have HG4:=Lib.hid hgr;have HV4:=Lib.hid hvb;clear b4 ho hgr hvb hb3)
  | (go_simp;go_at_call 113;refine(HI.out _).mono ?_;rintro e w3 ⟨rfl,hb3⟩;have b3:Blk w3 R _ _:=Blk.below (w:=W.drew) HR3.out hb3;have c33:=b3.cell 3;have c30:=b3.cell 0;have c31:=b3.cell 1;have cf3:=b3.free;have hl3:=b3.lt;simp only [zzD,zzE] at c33 c30 c31;clear b3))
 all_goals
  go_wp2_with fail
  go_ret
  have hlf:=live_gone S.slots i n HHi.out
  have k4:=(HR4.out.set 3 (.slice va (S.free.length+1) vc)).set 4 (.int .i64 ((S.live:Int) - 1))
  simp only [List.set_cons_succ,List.set_cons_zero] at k4
  have hb6:Below W.heap.size W (w3.alloc (.cells #[.int .i64 (i:Int)] 3)):=((Below.refl W.heap.size W).drew.trans (HB3.out.mono (Nat.le_refl _))).alloc (by have:=HB3.out.size;simpa using this) _
  have hch5:Chg (fun k=>k=R∨k=g∨(Value.slice fa S.free.length fc).ownBlock=some k) w ((w4.setCell ⟨R,3,none⟩ (.slice va (S.free.length+1) vc)).setCell ⟨R,4,none⟩ (.int .i64 ((S.live:Int) - 1))):=(((HC2.out.trans (Chg.of_below hb6) (fun _ _ h=>h)).grown HG4.out (fun k e _=>.inr (.inr e))).setCell ⟨R,3,none⟩ (fun _=>.inl rfl) _).setCell ⟨R,4,none⟩ (fun _=>.inl rfl) _
  have oth:∀{k:Nat}{cs:Array Value}{t:TypeId},w.heap[k]? = some (.cells cs t (0,0))→t≠159→t≠57→t≠3→((w4.setCell ⟨R,3,none⟩ (.slice va (S.free.length+1) vc)).setCell ⟨R,4,none⟩ (.int .i64 ((S.live:Int) - 1))).heap[k]? = w.heap[k]?:=fun {k cs t} hk h1 h2 h3=>hch5.block k (lt_of_block hk) (fun e=>by
   rcases e with rfl | rfl | e
   ·exact blk_ne hk HT.out.blk h2 rfl
   ·obtain⟨cur,hc⟩:=own_ty HT.out.slots (g:=k) rfl
    exact blk_ne hk hc h1 rfl
   ·obtain⟨cur,hc⟩:=own_ty HT.out.free e
    exact blk_ne hk hc h3 rfl)
  refine⟨.slice va (S.free.length+1) vc,rfl,⟨?_,?_,?_,?_,HT.out.base,by unfold Tr.gone;simp only [List.length_set];exact hfew⟩,hch5,?_⟩
  ·have e:((S.gone i).live:Int)=(S.live:Int) - 1:=by unfold Tr.live Tr.gone at *;simp only [];omega
   rw [e]
   exact k4
  ·unfold Tr.gone
   simp only [List.length_set]
   rw [HSet.out]
   refine own_kB HRow.out (fun b hb=>?_)
   have hbg:b=g:=by cases hb;rfl
   subst hbg
   have hl2:b < W.heap.size:=(HRow.out.lt b rfl).2
   exact(Below.heap_setCell _ _ _ _ (fun e=>hRg e.symm)).trans ((Below.heap_setCell _ _ _ _ (fun e=>hRg e.symm)).trans ((HG4.out.block b (Nat.lt_of_lt_of_le hl2 hb6.size) (fun e=>hgf b e.symm rfl)).trans (hb6.block b hl2)))
  ·have e:((S.gone i).free.map fun(j:Nat)=>Value.int .i64 (j:Int))=(S.free.map fun(j:Nat)=>Value.int .i64 (j:Int)) ++ [.int .i64 (i:Int)]:=by unfold Tr.gone;simp
   rw [e,show(S.gone i).free.length=S.free.length+1 by unfold Tr.gone;simp]
   refine own_kB HO4.out (fun b hb=>?_)
   obtain⟨cur,hcur⟩:=own_ty HO4.out hb
   have hne:b≠R:=fun e=>by
    subst e
    exact blk_ne hcur HR4.out (by decide) rfl
   exact(Below.heap_setCell _ _ _ _ hne).trans (Below.heap_setCell _ _ _ _ hne)
  ·intro k m hk
   have hk2:S.slots[k]? = some (some m):=by
    unfold Tr.gone at hk
    simp only [] at hk
    rw [List.getElem?_set] at hk
    by_cases e:i=k
    ·rw [if_pos e,if_pos hil] at hk;cases hk
    ·rw [if_neg e] at hk;exact hk
   obtain⟨a,c,e,h'⟩:=HT.out.attrs k m hk2
   refine⟨a,c,e,h'.imp id ?_⟩
   rintro⟨b,cur,e2,hB,hg,hc⟩
   exact⟨b,cur,e2,hB,(oth hg (by decide) (by decide) (by decide)).trans hg,hc⟩
  ·rcases HV4.out with e | e
   ·exact .inl e
   ·exact .inr ⟨_,e,Nat.le_trans hbw hb6.size⟩
def Tr.goneL (S:Tr)(l:List Nat):Tr:=l.foldl Tr.gone S
theorem goneL_snoc (S:Tr)(l:List Nat)(x:Nat):S.goneL (l ++ [x])=(S.goneL l).gone x:=by unfold Tr.goneL;rw [List.foldl_append];rfl
theorem goneL_b (S:Tr):∀l:List Nat,(S.goneL l).b=S.b∧(S.goneL l).s=S.s∧(S.goneL l).root=S.root∧(S.goneL l).slots.length=S.slots.length∧(S.goneL l).free=S.free ++ l:=by
 intro l
 induction l generalizing S with
 | nil=>simp [Tr.goneL]
 | cons x l ih =>
  have h:=ih (S.gone x)
  have e:S.goneL (x :: l)=(S.gone x).goneL l:=rfl
  rw [e]
  refine⟨h.1,h.2.1,h.2.2.1,?_,?_⟩
  ·rw [h.2.2.2.1];simp [Tr.gone]
  ·rw [h.2.2.2.2];simp [Tr.gone]
theorem goneL_slot (S:Tr):∀(l:List Nat) (x:Nat),x∉l→(S.goneL l).slots[x]? = S.slots[x]?:=by
 intro l
 induction l generalizing S with
 | nil=>intro x _;rfl
 | cons y l ih =>
  intro x hx
  have e:S.goneL (y :: l)=(S.gone y).goneL l:=rfl
  rw [e,ih (S.gone y) x (fun h=>hx (List.mem_cons_of_mem _ h))]
  unfold Tr.gone
  simp only [List.getElem?_set]
  rw [if_neg (fun e=>hx (by rw [e];exact List.mem_cons_self))]
theorem tdrop_none {B R:Nat}{S:Tr}{sv fv:Value}{w:World}(h:TAt B R S sv fv w)(hd:Int)(hh:HOk hd)(hk:S.ix hd=none) :
  Calls Tryz.prog 25 #[.pointer (some ⟨R,0,none⟩),.int .i64 hd] w fun e w'=>e=.returned (.int .i64 6)∧Below w.heap.size w w':=by
 have HA:=Lib.hid (at_none h hd hh hk)
 clear h hk
 go_enter Tryz.func25,Tryz.ntmps25
 go_wp2_with fail
 refine HA.out.mono ?_
 rintro e w2 ⟨rfl,hb⟩
 go_wp2_with fail
 go_ret
 exact⟨rfl,hb⟩
theorem tdrop_held {B R:Nat}{S:Tr}{sv fv:Value}{w:World}{K d}(h:TAt B R S sv fv w)(hL:Lk S K d)(i:Nat)(n:Nd)(hi:S.at i=some n)(hp:n.parent≠0∨n.kind=1) :
  Calls Tryz.prog 25 #[.pointer (some ⟨R,0,none⟩),.int .i64 (S.hd i)] w fun e w'=>e=.returned (.int .i64 7)∧Below w.heap.size w w':=by
 obtain⟨g,cap,rfl⟩:=slots_some h (by have:=at_lt hi;omega)
 have HA:=Lib.hid (at_some h (S.hd i) (hd_ok hL hi).1 (hd_ix hL hi))
 have HS:=Lib.hid (fun wx (hb:Below w.heap.size w wx)=>(show wx.cell? ⟨g,i*10+1,none⟩=some (.int .i64 n.kind)∧wx.cell? ⟨g,i*10+5,none⟩=some (.int .i64 n.parent) from⟨slot_cell (h.below hb) (at_slot hi) 1 (by omega),slot_cell (h.below hb) (at_slot hi) 5 (by omega)⟩))
 clear h hi
 go_enter Tryz.func25,Tryz.ntmps25
 go_wp2_with fail
 refine HA.out.mono ?_
 rintro e w2 ⟨rfl,hb⟩
 obtain⟨c1,c5⟩:=HS.out w2 hb
 have HB:=Lib.hid hb
 clear hb HA HS
 unfold na
 by_cases hp0:n.parent=0
 ·have hk:n.kind=1:=by rcases hp with e | e;exact absurd hp0 e;exact e
  rw [hp0] at c5
  rw [hk] at c1
  clear hp hp0 hk
  go_wp2_with fail
  go_ret
  exact⟨rfl,HB.out⟩
 ·have hd:decide (n.parent=0)=false:=by simp;exact hp0
  clear hp
  go_wp2_with fail
  go_ret
  exact⟨rfl,HB.out⟩
def DrL (B R g cap:Nat)(S:Tr)(fv:Value)(w:World)(l:List Nat)(v:Value)(jv:Value)(wr:World):Prop :=
 ∃(j B2:Nat) (fv':Value),j≤l.length∧jv=.int .i64 (j:Int)∧TAt B R (S.goneL (l.take j)) (.slice (some ⟨g,0,none⟩) S.slots.length cap) fv' wr∧wr.ownsRow B2 3 1 v l.length (hC (l.map S.hd)) ∧
  Chg (fun k=>k=R∨k=g∨fv.ownBlock=some k) w wr∧(fv'.ownBlock=fv.ownBlock∨∃k,fv'.ownBlock=some k∧w.heap.size≤k)∧(∀k,v.ownBlock=some k→w.heap.size≤k∧fv'.ownBlock≠some k)
theorem tdrop_ok {B R g cap:Nat}{S:Tr}{fv:Value}{w:World}{K d}(h:TAt B R S (.slice (some ⟨g,0,none⟩) S.slots.length cap) fv w)(hL:Lk S K d)(i:Nat)(n:Nd)(hi:S.at i=some n)(hp:n.parent=0)(hk:n.kind≠1)(hfl:S.free.length+S.slots.length≤1000000) :
  Calls Tryz.prog 25 #[.pointer (some ⟨R,0,none⟩),.int .i64 (S.hd i)] w fun e w'=>∃fv',e=.returned (.int .i64 0)∧TAt B R (S.goneL (wlk K (128 - d i) i)) (.slice (some ⟨g,0,none⟩) S.slots.length cap) fv' w' ∧
   Chg (fun k=>k=R∨k=g∨fv.ownBlock=some k) w w'∧(fv'.ownBlock=fv.ownBlock∨∃k,fv'.ownBlock=some k∧w.heap.size≤k):=by
 have HA:=Lib.hid (at_some h (S.hd i) (hd_ok hL hi).1 (hd_ix hL hi))
 have HS:=Lib.hid (fun wx (hb:Below w.heap.size w wx)=>(show wx.cell? ⟨g,i*10+1,none⟩=some (.int .i64 n.kind)∧wx.cell? ⟨g,i*10+5,none⟩=some (.int .i64 n.parent) from⟨slot_cell (h.below hb) (at_slot hi) 1 (by omega),slot_cell (h.below hb) (at_slot hi) 5 (by omega)⟩))
 have hsi:(S.at i).isSome=true:=by rw [hi];rfl
 have HND:=Lib.hid (wlk_nodup hL (128 - d i) i hsi)
 have HSB:=Lib.hid (fun x hx=>(wlk_sub hL (128 - d i) i x hsi hx).2)
 have HLN:=wlk_len hL (128 - d i) i hsi
 have HT:=Lib.hid h
 have hfew:=h.few
 have hgw:=(h.slots.lt g rfl).2
 have hRw:=h.blk.lt
 have hfv:∀k,fv.ownBlock=some k→k < w.heap.size:=fun k hk=>(h.free.lt k hk).2
 have HCl:=Lib.hid (fun(wa:World) (hb:Below w.heap.size w wa)=>(show Calls Tryz.prog 68 #[.func (.func 73) #[] #[.pointer (some ⟨wa.heap.size,0,none⟩),.pointer (some ⟨wa.heap.size+1,0,none⟩)]] ((wa.alloc (.cells #[.pointer (some ⟨R,0,none⟩)] 29)).alloc (.cells #[.int .i64 (S.hd i)] 3)) fun e w'=>∃v,e=.returned v∧w'.ownsRow ((wa.alloc (.cells #[.pointer (some ⟨R,0,none⟩)] 29)).alloc (.cells #[.int .i64 (S.hd i)] 3)).heap.size 3 1 v (wlk K (128 - d i) i).length (hC ((wlk K (128 - d i) i).map S.hd))∧Below ((wa.alloc (.cells #[.pointer (some ⟨R,0,none⟩)] 29)).alloc (.cells #[.int .i64 (S.hd i)] 3)).heap.size ((wa.alloc (.cells #[.pointer (some ⟨R,0,none⟩)] 29)).alloc (.cells #[.int .i64 (S.hd i)] 3)) w' from by
  have k1:=Blk.new wa [.pointer (some ⟨R,0,none⟩)] 29
  have k2:=Blk.new (wa.alloc (.cells #[.pointer (some ⟨R,0,none⟩)] 29)) [.int .i64 (S.hd i)] 3
  have hs1:(wa.alloc (.cells #[.pointer (some ⟨R,0,none⟩)] 29)).heap.size=wa.heap.size+1:=by simp
  rw [hs1] at k2
  have hbb:Below wa.heap.size wa ((wa.alloc (.cells #[.pointer (some ⟨R,0,none⟩)] 29)).alloc (.cells #[.int .i64 (S.hd i)] 3)):=((Below.refl _ _).alloc (Nat.le_refl _) _).alloc (by simp) _
  have k1':=k1.alloc (.cells #[.int .i64 (S.hd i)] 3)
  have hs2:((wa.alloc (.cells #[.pointer (some ⟨R,0,none⟩)] 29)).alloc (.cells #[.int .i64 (S.hd i)] 3)).heap.size=wa.heap.size+2:=by simp
  have k1':Blk ((wa.alloc (.cells #[.pointer (some ⟨R,0,none⟩)] 29)).alloc (.cells #[.int .i64 (S.hd i)] 3)) wa.heap.size [.pointer (some ⟨R,0,none⟩)] 29:=k1'
  have k2:Blk ((wa.alloc (.cells #[.pointer (some ⟨R,0,none⟩)] 29)).alloc (.cells #[.int .i64 (S.hd i)] 3)) (wa.heap.size+1) [.int .i64 (S.hd i)] 3:=k2
  generalize (wa.alloc (.cells #[.pointer (some ⟨R,0,none⟩)] 29)).alloc (.cells #[.int .i64 (S.hd i)] 3)=w2 at *
  refine collect_any (enters_of Tryz.func73 (by kernel_rfl) rfl) (by omega) (fun m=>walk1_some (h.below hb) hL n hi ⟨?_,?_,?_,?_⟩ (k1'.alloc _) (k2.alloc _))
  ·simp;omega
  ·intro k cs t fr hk
   have hkl:=(Array.getElem?_eq_some_iff.1 hk).1
   exact(((Below.refl w2.heap.size w2).alloc (Nat.le_refl _) _).block k (by omega)).trans ((hbb.block k hkl).trans hk)
  ·intro k hk
   have kb:=(Blk.new w2 [.slice none 0 0] 31).cell 0
   simp only [List.getElem?_cons_zero] at kb
   unfold slB at hk
   rw [kb] at hk
   cases hk
  ·simp;omega))
 clear hsi h
 go_enter Tryz.func25,Tryz.ntmps25
 go_wp2_with fail
 refine HA.out.mono ?_
 rintro e w2 ⟨rfl,hb⟩
 obtain⟨c1,c5⟩:=HS.out w2 hb
 have HB:=Lib.hid hb
 have HC2:=Lib.hid (HCl.out w2 hb)
 clear hb HA HS HCl
 unfold na
 have hd:decide (n.kind=1)=false:=by simp;exact hk
 rw [hp] at c5
 go_wp2_with fail
 refine(walk_any R (S.hd i) w2).mono ?_
 rintro e w3 ⟨rfl,hw3⟩
 rw [hw3]
 have hb23:Below w2.heap.size w2 ((w2.alloc (.cells #[.pointer (some ⟨R,0,none⟩)] 29)).alloc (.cells #[.int .i64 (S.hd i)] 3)):=((Below.refl _ _).alloc (Nat.le_refl _) _).alloc (by simp) _
 have HB3:=Lib.hid (bthen HB.out hb23)
 clear hw3 hb23 c1 c5
 go_wp2_with fail
 refine HC2.out.mono ?_
 rintro e w4 ⟨v,rfl,ho4,hb4⟩
 obtain⟨va,vc,rfl⟩:=own_shapeB ho4
 have HB4:=Lib.hid (bthen HB3.out hb4)
 have HO4:=Lib.hid ho4
 have hsz3:=HB3.out.size
 clear ho4 hb4 HC2
 generalize hl:wlk K (128 - d i) i=l at *
 go_wp2_with fail
 go_loopw [32] (fun jv wr=>DrL B R g cap S fv w l (.slice va l.length vc) jv wr) (fun jv _=>l.length - intN jv)
 case atStart=>exact⟨0,_,fv,by omega,rfl,by simpa [Tr.goneL] using HT.out.below HB4.out,HO4.out,Chg.of_below HB4.out,.inl rfl,fun k hk=>⟨by have:=(HO4.out.lt k hk).1;omega,fun e=>by have:=hfv k e;have:=(HO4.out.lt k hk).1;omega⟩⟩
 case round =>
  obtain⟨j,B2,fv',hj,rfl,hT,ho,hc,hf1,hf2⟩:=hrel
  by_cases hlt:j < l.length
  ·obtain⟨x,hx⟩:∃x,l[j]? = some x:=⟨_,List.getElem?_eq_getElem hlt⟩
   have hxl:=List.mem_of_getElem? hx
   obtain⟨nx,hnx⟩:=Option.isSome_iff_exists.1 (HSB.out x hxl)
   obtain⟨gv,cp2,hv,hcell⟩:=own_int ho (x:=S.hd x) (by rw [List.getElem?_map,hx];rfl)
   cases hv
   have hnt:x∉l.take j:=fun hm=>by
    obtain⟨q,hq⟩:=List.mem_iff_getElem?.1 hm
    rw [List.getElem?_take] at hq
    by_cases hqj:q < j
    ·rw [if_pos hqj] at hq
     have h1:=(List.getElem?_eq_some_iff.1 hq).1
     have:=(List.getElem?_inj h1 HND.out).1 (hq.trans hx.symm)
     omega
    ·rw [if_neg hqj] at hq;cases hq
   obtain⟨e1,e2,e3,e4,e5⟩:=goneL_b S (l.take j)
   have hhd:(S.goneL (l.take j)).hd x=S.hd x:=by unfold Tr.hd;rw [e1,e2]
   have hix:(S.goneL (l.take j)).ix (S.hd x)=some x:=by
    rw [← hhd]
    exact ix_hd (n:=nx) (by rw [e4];omega) (by rw [goneL_slot S _ x hnt];exact at_slot hnx)
   rw [← e4] at hT
   have HD:=Lib.hid (adrop_some hT (S.hd x) (hd_ok hL hnx).1 hix (by rw [e5];have:=List.length_take_le j l;simp only [List.length_append];omega))
   rw [e4] at HD
   have htk:l.take (j+1)=l.take j ++ [x]:=by rw [List.take_add_one,hx];rfl
   have HG:=Lib.hid (show S.goneL (l.take (j+1))=(S.goneL (l.take j)).gone x by rw [htk,goneL_snoc])
   have hRz:=hT.blk.free
   have HO:=Lib.hid ho
   have HC:=Lib.hid hc
   have HF1:=Lib.hid hf1
   have HF2:=Lib.hid hf2
   have hTf:∀k,fv'.ownBlock=some k→k < wr.heap.size:=fun k hk=>(hT.free.lt k hk).2
   have HRn:=Lib.hid (fun k (hk:(Value.slice (some ⟨gv,0,none⟩) l.length vc).ownBlock=some k)=>(show k≠R∧k≠g from⟨fun e=>by
    obtain⟨cur,hcur⟩:=own_ty ho hk
    subst e
    exact blk_ne hcur hT.blk (by decide) rfl,fun e=>by
    obtain⟨cur,hcur⟩:=own_ty ho hk
    obtain⟨cur2,hcur2⟩:=own_ty hT.slots (g:=g) rfl
    subst e
    exact blk_ne hcur hcur2 (by decide) rfl⟩))
   clear hT ho hc hf1 hf2 hix hhd hnt e1 e2 e3 e4 e5 hx hxl hnx htk
   go_wp2_with fail
   refine HD.out.mono ?_
   rintro e w5 ⟨fv2,rfl,hT5,hc5,hf5⟩
   have HS:=Lib.hid (show DrL B R g cap S fv w l (.slice (some ⟨gv,0,none⟩) l.length vc) (.int .i64 ((j+1:Nat):Int)) w5 from⟨j+1,B2,fv2,by omega,rfl,by rw [HG.out];exact hT5,own_kB HO.out (fun k hk=>hc5.block k (HO.out.lt k hk).2 (fun e=>by
     rcases e with e | e | e
     ·exact(HRn.out k hk).1 e
     ·exact(HRn.out k hk).2 e
     ·exact(HF2.out k hk).2 e)),HC.out.trans hc5 (fun k hk e=>by
     rcases e with e | e | e
     ·exact .inl e
     ·exact .inr (.inl e)
     ·rcases HF1.out with e2 | ⟨q,e2,hq⟩
      ·exact .inr (.inr (e2 ▸ e))
      ·rw [e2] at e;cases e;omega),by
     rcases hf5 with e | ⟨q,e,hq⟩
     ·rw [e];exact HF1.out
     ·exact .inr ⟨q,e,Nat.le_trans HC.out.size hq⟩,fun k hk=>⟨(HF2.out k hk).1,fun e=>by
     rcases hf5 with e2 | ⟨q,e2,hq⟩
     ·exact(HF2.out k hk).2 (e2 ▸ e)
     ·rw [e2] at e;cases e
      have:=(HO.out.lt k hk).2
      omega⟩⟩)
   clear hT5 hc5 hf5
   go_wp2_with fail
   exact⟨HS.out,by simp only [intN];omega⟩
  ·obtain rfl:j=l.length:=by omega
   rw [List.take_length] at hT
   have HT9:=Lib.hid hT
   have HC:=Lib.hid hc
   have HF1:=Lib.hid hf1
   clear hT ho hc hf1 hf2
   go_wp2_with fail
   go_ret
   exact⟨fv',rfl,by rw [hl];exact HT9.out,HC.out,HF1.out⟩
section
variable {Q g cap : Nat} {X : List MX} {D : Nat → Nat}
theorem mwalk_any (hW:MW (ms X) D)(hN:∀f i m,lv (ms X) i=some m→(wlk (kM (ms X)) f i).length≤100000):∀(f i:Nat) (m:MN),lv (ms X) i=some m→128 - D i=f→∀w,MdW Q (.slice (some ⟨g,0,none⟩) X.length cap) X w →
  Calls Tryz.prog 37 #[.pointer (some ⟨Q,0,none⟩),.int .i64 (i:Int)] w fun e w'=>∃v,e=.returned v∧w'.ownsRow w.heap.size 3 1 v (wlk (kM (ms X)) f i).length (kC (wlk (kM (ms X)) f i))∧Below w.heap.size w w':=by
 intro f
 induction f using Nat.strongRecOn with
 | ind f ih =>
  intro i m hi hf w h
  have c0:=h.ptr
  obtain⟨_,_,ka,kc,c5,ho⟩:=h.lvc hi
  have l1:=lv_lt hi
  have hkl:=hW.klen hi
  have hlow:=hW.low i m hi
  have hpos:=hW.dpos hi
  have hkM:=kM_of hi
  have HC:=Lib.hid (fun(k:Nat) (hk:k∈m.kids) (wx:World) (hx:Below w.heap.size w wx)=>(show
    Calls Tryz.prog 37 #[.pointer (some ⟨Q,0,none⟩),.int .i64 (k:Int)] wx fun e w'=>∃v,e=.returned v∧w'.ownsRow wx.heap.size 3 1 v (wlk (kM (ms X)) (f - 1) k).length (kC (wlk (kM (ms X)) (f - 1) k))∧Below wx.heap.size wx w' from by
   obtain⟨mk,hmk,hpk⟩:=hW.kid i m k hi hk
   obtain⟨mi,hmi,_,hd⟩:=hW.par k mk i hmk hpk
   have hlk:=hW.low k mk hmk
   exact ih (f - 1) (by omega) k mk hmk (by omega) wx (h.below hx)))
  have hE:wlk (kM (ms X)) f i=i :: m.kids.flatMap (wlk (kM (ms X)) (f - 1)):=by
   cases f with
   | zero =>
    have hk0:m.kids=[]:=by
     cases hk:m.kids with
     | nil=>rfl
     | cons k t =>
      obtain⟨mk,hmk,hpk⟩:=hW.kid i m k hi (by rw [hk];simp)
      obtain⟨mi,hmi,_,hd⟩:=hW.par k mk i hmk hpk
      have:=hW.low k mk hmk
      omega
    rw [hk0];rfl
   | succ f =>
    show i :: (kM (ms X) i).flatMap (wlk (kM (ms X)) f)=_
    rw [hkM];rfl
  have hn:=hN f i m hi
  rw [hE] at hn ⊢
  have HL:=Lib.hid (fun t=>(show((m.kids.take t).flatMap (wlk (kM (ms X)) (f - 1))).length≤100000 from by
   have:((m.kids.take t).flatMap (wlk (kM (ms X)) (f - 1))).length≤(m.kids.flatMap (wlk (kM (ms X)) (f - 1))).length:=by
    rw [← List.take_append_drop t m.kids]
    rw [List.flatMap_append,List.length_append]
    rw [List.take_append_drop]
    omega
   rw [List.length_cons] at hn
   omega))
  have HN1:=Lib.hid (fun k (hk:k∈m.kids)=>(show(wlk (kM (ms X)) (f - 1) k).length≤100000 from by
   obtain⟨mk,hmk,hpk⟩:=hW.kid i m k hi hk
   exact hN (f - 1) k mk hmk))
  have HG:=Lib.hid (fun(t:Nat) (k:Nat) (wx:World) (hx:Below w.heap.size w wx) (hk:m.kids[t]? = some k)=>kid_get (own_belowM ho hx) hk)
  have HQ:=Lib.hid (fun wx (hb:Below w.heap.size w wx)=>(show wx.cell? ⟨Q,0,none⟩=some (.slice (some ⟨g,0,none⟩) X.length cap)∧wx.cell? ⟨g,i*7+5,none⟩=some (.slice ka m.kids.length kc) from⟨cell_keep hb c0,cell_keep hb c5⟩))
  have hQl:=h.blk.lt
  clear hE hn h ih ho hkM hN c0 c5
  go_enter Tryz.func37,Tryz.ntmps37
  go_wp2_with fail
  have ho1:(w.alloc (.cells #[.int .i64 (i:Int)] 3)).ownsRow w.heap.size 3 1 (.slice (some ⟨w.heap.size,0,none⟩) 1 1) 1 (kC [i]):=by
   refine own_base' ?_ (fun k hk=>by cases hk;exact Nat.le_refl _)
   exact own_at (n:=1) (size:=1) (Blk.new w [.int .i64 (i:Int)] 3) rfl (by omega)
  have hb1:Below w.heap.size w (w.alloc (.cells #[.int .i64 (i:Int)] 3)):=(Below.refl _ _).alloc (Nat.le_refl _) _
  have HO1:=Lib.hid ho1
  have HB1:=Lib.hid hb1
  clear ho1 hb1
  generalize w.alloc (.cells #[.int .i64 (i:Int)] 3)=w1 at *
  go_loopw [5,6] (fun ov iv wr=>∃(t:Nat) (ol:Nat),t≤m.kids.length∧iv=.int .i64 (t:Int)∧ol=(i :: (m.kids.take t).flatMap (wlk (kM (ms X)) (f - 1))).length∧wr.ownsRow w.heap.size 3 1 ov ol (kC (i :: (m.kids.take t).flatMap (wlk (kM (ms X)) (f - 1))))∧Below w.heap.size w wr) (fun _ iv _=>m.kids.length - intN iv)
  case atStart=>exact⟨0,1,by omega,rfl,rfl,HO1.out,HB1.out⟩
  case round =>
   obtain⟨t,ol,ht,rfl,hol,hown,hb⟩:=hrel
   obtain⟨q0,q5⟩:=HQ.out _ hb
   obtain⟨oa,oc,rfl⟩:=own_shapeB hown
   have HO:=Lib.hid hown
   have HBr:=Lib.hid hb
   have hll:=HL.out t
   rw [List.length_cons] at hol
   have hol2:ol≤100001:=by omega
   have HOl:=Lib.hid hol
   clear hown hb hol
   by_cases htl:t < m.kids.length
   ·obtain⟨k,hk⟩:∃k,m.kids[t]? = some k:=⟨_,List.getElem?_eq_getElem htl⟩
    obtain⟨gk,rfl,ck⟩:=HG.out t k _ HBr.out hk
    have HK:=Lib.hid (HC.out k (List.mem_of_getElem? hk) _ HBr.out)
    have hkn:=HN1.out k (List.mem_of_getElem? hk)
    have hkp:=wlk_pos (kM (ms X)) (f - 1) k
    have HS:=Lib.hid (flatMap_take_succ hk (wlk (kM (ms X)) (f - 1)))
    generalize (m.kids.take t).flatMap (wlk (kM (ms X)) (f - 1))=l1 at *
    generalize wlk (kM (ms X)) (f - 1) k=l2 at *
    clear hk
    go_wp2_with fail
    refine HK.out.mono ?_
    rintro e w4 ⟨v,rfl,hv,hb4⟩
    have hv0:Own w4 3 1 v l2.length (kC l2):=own_low hv (Nat.zero_le _)
    obtain⟨gv,cv,rfl,_⟩:=own_some hv0 (by omega)
    have HV:=Lib.hid hv0
    have HO4:=Lib.hid (own_keepB HO.out hb4)
    have hB4:=bthen HBr.out hb4
    have hlt4:=fun g (hg:(Value.slice oa ol oc).ownBlock=some g)=>(HO.out.lt g hg).1
    have HB4:=Lib.hid hB4
    clear hv hv0 hB4 hb4 q0 q5 ck
    have hsz4:w.heap.size≤w4.heap.size:=HB4.out.size
    go_wp2_with (at_builtin;refine wpList_append_B etI HO4.out hsz4 HV.out (kC_one _) (by omega) (by omega) rfl _ _ rfl rfl rfl ?_)
    intro v' w5 ho5 hg5 _
    have HO5:=Lib.hid ho5
    have HB5:=Lib.hid (HB4.out.grown hg5 hsz4 (fun k hk=>hlt4 k hk))
    clear ho5 hg5 HO4 HV
    go_wp2_with fail
    refine⟨⟨t+1,ol+l2.length,by omega,by first | rfl | simp,?_,?_,HB5.out⟩,by simp only [intN];omega⟩
    ·have:=HOl.out;rw [HS.out,List.length_cons,List.length_append];omega
    ·rw [HS.out]
     have:=HO5.out
     rw [kC_app,List.cons_append] at this
     exact this
   ·obtain rfl:t=m.kids.length:=by omega
    rw [List.take_length] at HO HOl
    go_wp2_with fail
    go_ret
    refine⟨_,rfl,?_,HBr.out⟩
    rw [← HOl.out]
    exact HO.out
end
def goneM (M:List MN)(l:List Nat):List MN:=M.mapIdx fun i m=>{ m with gone:=m.gone || l.contains i }
theorem goneM_nil (M:List MN):goneM M []=M:=by
 unfold goneM
 apply List.ext_getElem?
 intro i
 rw [List.getElem?_mapIdx]
 cases M[i]? with
 | none=>rfl
 | some m=>simp
theorem goneM_snoc (M:List MN)(l:List Nat)(k:Nat)(m:MN)(hk:M[k]? = some m):(goneM M l).set k { m with gone:=true }=goneM M (l ++ [k]):=by
 unfold goneM
 apply List.ext_getElem?
 intro i
 rw [List.getElem?_set,List.getElem?_mapIdx,List.getElem?_mapIdx,List.length_mapIdx]
 have hl:=(List.getElem?_eq_some_iff.1 hk).1
 by_cases e:k=i
 ·subst e
  rw [if_pos rfl,if_pos hl,hk]
  simp
 ·rw [if_neg e]
  have e':¬i=k:=fun h=>e h.symm
  cases M[i]? with
  | none=>rfl
  | some m=>simp [e']
theorem goneM_at (M:List MN)(l:List Nat)(k:Nat):(goneM M l)[k]? = (M[k]?).map fun m=>{ m with gone:=m.gone || l.contains k }:=by
 unfold goneM;rw [List.getElem?_mapIdx]
inductive MDro (M:List MN) (D:Nat→Nat) (c:Nat) (mc:MN):List MN→Int→Prop
 | no (h:c=0∨mc.par≠none):MDro M D c mc M 7
 | yes (h0:c≠0) (h:mc.par=none):MDro M D c mc (goneM M (wlk (kM M) (128 - D c) c)) 0
theorem mdrop_any {Q g cap:Nat}{X:List MX}{D:Nat→Nat}{w:World}(h:MdAt Q (.slice (some ⟨g,0,none⟩) X.length cap) X w)(hW:MW (ms X) D)(hN:∀f i m,lv (ms X) i=some m→(wlk (kM (ms X)) f i).length≤100000)(hLv:∀f i m,lv (ms X) i=some m→∀y∈wlk (kM (ms X)) f i,∃my,lv (ms X) y=some my)
  {c:Nat}{mc:MN}(hc:lv (ms X) c=some mc) :
  Calls Tryz.prog 49 #[.pointer (some ⟨Q,0,none⟩),.int .i64 (c:Int)] w fun e w'=>∃X' en,MDro (ms X) D c mc (ms X') en∧e=.returned (.int .i64 en)∧MdOut Q (.slice (some ⟨g,0,none⟩) X.length cap) X w (.slice (some ⟨g,0,none⟩) X'.length cap) X' w':=by
 have c0:=h.W.ptr
 obtain⟨_,c4,_⟩:=h.W.lvc hc
 have lc:=lv_lt hc
 have hf:=hW.few
 rw [ms_len] at hf
 have hQl:=h.W.blk.lt
 have hgl:=md_g_lt h
 have HWk:=Lib.hid (mwalk_any hW hN (128 - D c) c mc hc rfl w h.W)
 have hnl:=hN (128 - D c) c mc hc
 have HLv:=Lib.hid (hLv (128 - D c) c mc hc)
 have H0:=Lib.hid h
 have hgQ:g≠Q:=fun e=>by
  have h1:=h.W.blk
  obtain⟨cg,hg⟩:=own_blk h.W.row (b:=g) rfl
  rw [← e] at h1
  exact blk_ne h1 hg (by decide) rfl
 clear h hW hc hN hLv
 by_cases hc0:c=0
 ·subst hc0
  go_enter Tryz.func49,Tryz.ntmps49
  go_wp2_with fail
  go_ret
  exact⟨X,7,.no (.inl rfl),rfl,MdOut.refl H0.out (Below.refl _ _)⟩
 have hb:((c:Int) == 0)=false:=by simp;omega
 cases hp:mc.par with
 | some q =>
  rw [hp,show pI (some q)=(q:Int) from rfl] at c4
  have HP:=Lib.hid hp
  clear hp
  go_enter Tryz.func49,Tryz.ntmps49
  go_wp2_with fail
  go_ret
  exact⟨X,7,.no (.inr (by rw [HP.out];simp)),rfl,MdOut.refl H0.out (Below.refl _ _)⟩
 | none =>
  rw [hp,show pI none=-1 from rfl] at c4
  have HR:=Lib.hid (MDro.yes (M:=ms X) (D:=D) hc0 hp)
  clear hp
  generalize wlk (kM (ms X)) (128 - D c) c=L at *
  go_enter Tryz.func49,Tryz.ntmps49
  go_wp2_with fail
  refine HWk.out.mono ?_
  rintro e w1 ⟨v,rfl,hv,hb1⟩
  obtain⟨va,vc,rfl⟩:=own_shapeB hv
  have HV:=Lib.hid hv
  have HB1:=Lib.hid hb1
  clear hv c0 c4
  go_wp2_with fail
  go_loopw [6] (fun iv wr=>∃(t:Nat) (X1:List MX),t≤L.length∧iv=.int .i64 (t:Int)∧ms X1=goneM (ms X) (L.take t)∧wr.ownsRow w.heap.size 3 1 (.slice va L.length vc) L.length (kC L)∧MdOut Q (.slice (some ⟨g,0,none⟩) X.length cap) X w (.slice (some ⟨g,0,none⟩) X1.length cap) X1 wr) (fun iv _=>L.length - intN iv)
  case atStart=>exact⟨0,X,by omega,rfl,by rw [List.take_zero,goneM_nil],HV.out,MdOut.refl H0.out HB1.out⟩
  case round =>
   obtain⟨t,X1,ht,rfl,hms,hown,hM⟩:=hrel
   have HO:=Lib.hid hown
   have HM:=Lib.hid hM
   have HMs:=Lib.hid hms
   have hlen:X1.length=X.length:=by
    have:=congrArg List.length hms
    unfold goneM at this
    rw [ms_len,List.length_mapIdx,ms_len] at this
    exact this
   clear hown hM hms
   by_cases htl:t < L.length
   ·obtain⟨k,hk⟩:∃k,L[t]? = some k:=⟨_,List.getElem?_eq_getElem htl⟩
    obtain⟨gk,rfl,ck⟩:=kid_get (own_low HO.out (Nat.zero_le _)) hk
    obtain⟨mk,hmk⟩:=HLv.out k (List.mem_of_getElem? hk)
    have lk:k < X1.length:=by rw [hlen];exact lv_lt hmk
    obtain⟨xk,hxk⟩:∃x,X1[k]? = some x:=⟨_,List.getElem?_eq_getElem lk⟩
    have q0:=HM.out.at_.W.ptr
    have q6:=HM.out.at_.W.cell hxk 6 (by omega)
    simp only [mxC,zzD,zzE] at q6
    have qz:=HM.out.at_.W.frz
    have HXk:=Lib.hid hxk
    have HLk:=Lib.hid hk
    have hgk:=(HO.out.lt gk rfl)
    have hgkg:gk≠g:=by omega
    clear hk hmk hxk
    go_wp2_with fail
    go_region
    all_goals
     have hp:=HM.out.at_.putF HXk.out { xk.m with gone:=true } 6 (.bool true) (by omega) rfl rfl rfl
     have ho2:=own_kB HO.out (w':=wr.setCell ⟨g,k*7+6,none⟩ (.bool true)) (fun b hb=>Below.heap_setCell _ _ _ _ (by cases hb;exact hgkg))
     have HP:=Lib.hid (HM.out.trans hp)
     have HO2:=Lib.hid ho2
     clear hp ho2
     go_wp2_with fail
     refine⟨⟨t+1,_,by omega,by first | rfl | simp,?_,HO2.out,HP.out.still ((Below.refl _ _).drew)⟩,by simp only [intN];omega⟩
     rw [ms_set,HMs.out,List.take_add_one,HLk.out]
     have h1:(goneM (ms X) (L.take t))[k]? = some xk.m:=by rw [← HMs.out,ms_at,HXk.out];rfl
     rw [goneM_at] at h1
     obtain⟨m0,h2,h3⟩:=Option.map_eq_some_iff.1 h1
     have:=goneM_snoc (ms X) (L.take t) k m0 h2
     rw [← h3]
     exact this
   ·obtain rfl:t=L.length:=by omega
    rw [List.take_length] at HMs
    go_wp2_with fail
    go_ret
    exact⟨X1,0,by rw [HMs.out];exact HR.out,rfl,HM.out⟩
end Go.Proofs.YtfelmdkeaacfeaaGreatDoor.W
end
