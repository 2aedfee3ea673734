/- Texts joined: Lng AddF Clear Del. -/
import Derived.Test.YtfelmdkeaacfeaaGreatDoorTM1
import Derived.Test.YtfelmdkeaacfeaaGreatDoorTM20
import Derived.Test.YtfelmdkeaacfeaaGreatDoorTM11
import Derived.Test.YtfelmdkeaacfeaaGreatDoorTM8
import Derived.Test.YtfelmdkeaacfeaaGreatDoorTM17
import Derived.Test.YtfelmdkeaacfeaaGreatDoorTM14
import Derived.RegionTactic
import Derived.BigRegion
import Derived.Laws.IdiomCopy
import Derived.Deep.RegionLaw
import Derived.Shelf.RegionOpenPlain
set_option maxRecDepth 100000
set_option maxHeartbeats 40000000
set_option linter.unusedVariables false
set_option linter.unusedSimpArgs false
section
namespace Go.Proofs.YtfelmdkeaacfeaaGreatDoor.W
open Go.RowKit
theorem mk1_any (s:List UInt8)(a:ByteArray)(hs:s.length≤1048576)(w:World):Calls Tryz.prog 89 #[.agg #[.string a,.string ⟨s.toArray⟩]] w fun e w'=>e=.returned (.bool false)∧Below w.heap.size w w':=by
 have HL:=Lib.hid (fun wx=>long_any ⟨s.toArray⟩ (by rw [bsz];omega) wx)
 have hd:decide (1048576 < (⟨s.toArray⟩:ByteArray).size)=false:=by rw [bsz];simp;omega
 have c1:=(Blk.new w [.string a,.string ⟨s.toArray⟩] 91).cell 1
 simp only [zzD,zzE] at c1
 go_enter Tryz.func89,Tryz.ntmps89
 go_wp2_with fail
 refine(HL.out _).mono ?_
 rintro e w2 ⟨rfl,rfl⟩
 rw [hd]
 go_wp2_with fail
 go_ret
 exact⟨rfl,(Below.refl _ _).alloc (Nat.le_refl _) _⟩
theorem index_lng {B:Nat}{w:World}{v:Value}{l:List (List UInt8×List UInt8)}(h:AttrAt B w v l)(hl:l.length≤1000)(has:∀a∈l,a.2.length≤1048576) :
  Calls Tryz.prog 103 #[v,.func (.func 89) #[] #[]] w fun e w'=>e=.returned (.int .i64 (-1))∧Below w.heap.size w w':=by
 obtain⟨va,vc,rfl,hcs⟩:=h
 have HC:=Lib.hid hcs
 have HA:=Lib.hid has
 clear hcs has
 go_enter Tryz.func103,Tryz.ntmps103
 go_wp2_with fail
 go_loopw [8] (fun iv wr=>∃k:Nat,k≤l.length∧iv=.int .i64 (k:Int)∧Below w.heap.size w wr) (fun iv _=>l.length - intN iv)
 case atStart=>exact⟨0,Nat.zero_le _,rfl,Below.refl _ _⟩
 case round =>
  obtain⟨k,hk,rfl,hB⟩:=hrel
  by_cases hkl:k < l.length
  ·obtain⟨y,hy⟩:∃y,l[k]? = some y:=⟨_,List.getElem?_eq_getElem hkl⟩
   rcases HC.out with rfl | ⟨vg,cur,rfl,_,hgg,hcc⟩
   ·simp at hkl
   have hgl:=lt_of_block hgg
   have q0:wr.cell? ⟨vg,k*2,none⟩=some (strV y.1):=by
    rw [hB.cell (p:=⟨vg,k*2,none⟩) hgl,show k*2=2*k by omega]
    rw [Lib.cell_of_heap hgg]
    exact(hcc k y hy).1
   have q1:wr.cell? ⟨vg,k*2+1,none⟩=some (strV y.2):=by
    rw [hB.cell (p:=⟨vg,k*2+1,none⟩) hgl,show k*2+1=2*k+1 by omega]
    rw [Lib.cell_of_heap hgg]
    exact(hcc k y hy).2
   have HP1:=Lib.hid (mk1_any y.2 ⟨y.1.toArray⟩ (HA.out y (List.mem_of_getElem? hy)) wr)
   clear hy hgg hcc
   simp only [strV] at q0 q1
   go_wp2_with fail
   refine HP1.out.mono ?_
   rintro e w2 ⟨rfl,hb2⟩
   go_wp2_with fail
   exact⟨⟨k+1,by omega,by go_num,hB.trans (hb2.mono hB.size)⟩,by simp only [intN];omega⟩
  ·go_wp2_with fail
   go_ret
   exact⟨rfl,hB⟩
theorem contains_lng {B:Nat}{w:World}{v:Value}{l:List (List UInt8×List UInt8)}(h:AttrAt B w v l)(hl:l.length≤1000)(has:∀a∈l,a.2.length≤1048576) :
  Calls Tryz.prog 88 #[v,.func (.func 89) #[] #[]] w fun e w'=>e=.returned (.bool false)∧Below w.heap.size w w':=by
 have H:=Lib.hid (index_lng h hl has)
 clear h
 go_enter Tryz.func88,Tryz.ntmps88
 go_wp2_with fail
 refine H.out.mono ?_
 rintro e w' ⟨rfl,hw⟩
 go_wp2_with fail
 go_ret
 exact⟨rfl,hw⟩
theorem rowC_cons (x:Option Nd)(l:List (Option Nd)):rowC (x :: l)=slotC x ++ rowC l:=by unfold rowC;rw [List.flatMap_cons]
theorem rowC_put (l:List (Option Nd))(i:Nat)(x:Option Nd)(hi:i < l.length):rowC (l.set i x)=setAll (rowC l) (i*10) (slotC x):=by
 induction l generalizing i with
 | nil=>simp at hi
 | cons y l ih =>
  cases i with
  | zero =>
   rw [List.set_cons_zero,rowC_cons,rowC_cons,Nat.zero_mul]
   exact(setAll_head (slotC y) (slotC x) (rowC l) (by rw [slotC_len,slotC_len])).symm
  | succ i =>
   rw [List.set_cons_succ,rowC_cons,rowC_cons,ih i (by simpa using hi)]
   have:=setAll_skip (slotC y) (rowC l) (slotC x) (i*10)
   rw [slotC_len] at this
   rw [show(i+1)*10=10+i*10 by omega]
   exact this.symm
theorem own_baseB {w:World}{B e size n:Nat}{v:Value}{xs:List Value}(h:Own w e size v n xs)(hb:∀k,v.ownBlock=some k→B≤k):w.ownsRow B e size v n xs:=by
 obtain⟨h1,h2⟩:=h
 refine⟨h1,h2.imp id ?_⟩
 rintro⟨g,cap,cur,rfl,_,rest⟩
 exact⟨g,cap,cur,rfl,hb g rfl,rest⟩
theorem own_popB {w:World}{B e size g n cap:Nat}{xs:List Value}(h:w.ownsRow B e size (.slice (some ⟨g,0,none⟩) (n+1) cap) (n+1) xs):w.ownsRow B e size (.slice (some ⟨g,0,none⟩) n cap) n (xs.take (n*size)):=by
 have hb:=(h.lt g rfl).1
 have h0:Own w e size (.slice (some ⟨g,0,none⟩) (n+1) cap) (n+1) xs:=own_low h (Nat.zero_le _)
 have h1:=own_pop h0
 refine own_baseB h1 (fun k hk=>by cases hk;exact hb)
theorem live_fill:∀(l:List (Option Nd)) (i:Nat) (n:Nd),l[i]? = some none→((l.set i (some n)).filter Option.isSome).length=(l.filter Option.isSome).length+1
 | [],i,n,h=>by simp at h
 | x :: l,0,n,h=>by
  simp at h;subst h
  simp
 | x :: l,i+1,n,h=>by
  have ih:=live_fill l i n (by simpa using h)
  rw [List.set_cons_succ]
  cases x with
  | none=>simpa using ih
  | some y=>simpa using ih
theorem add_old {B R g cap i:Nat}{S:Tr}{F:List Nat}{fv:Value}{w:World}(h:TAt B R S (.slice (some ⟨g,0,none⟩) S.slots.length cap) fv w)(hF:S.free=F ++ [i])(hi:S.slots[i]? = some none)(n:Nd)(hn:AttrAt B w n.av n.attrs)(hfl:F.length≤1000000) :
  Calls Tryz.prog 85 #[.pointer (some ⟨R,0,none⟩),.agg #[.int .i64 n.kind,.string ⟨n.name.toArray⟩,n.av,.string ⟨n.data.toArray⟩,.int .i64 n.parent,.int .i64 n.first,.int .i64 n.last,.int .i64 n.prev,.int .i64 n.next]] w fun e w'=>∃fv',e=.returned (.int .i64 (S.hd i)) ∧
   TAt B R { S with slots:=S.slots.set i (some n),free:=F } (.slice (some ⟨g,0,none⟩) S.slots.length cap) fv' w'∧Chg (fun k=>k=R∨k=g) w w'∧fv'.ownBlock=fv.ownBlock:=by
 have c0:=h.blk.cell 0
 have c1:=h.blk.cell 1
 have c2:=h.blk.cell 2
 have c3:=h.blk.cell 3
 have c4:=h.blk.cell 4
 have hlt:=h.blk.lt
 simp only [zzD,zzE] at c0 c1 c2 c3 c4
 have hfr:=h.free
 rw [hF,List.length_append,List.length_singleton] at hfr
 obtain⟨fg,fcap,hfv,hfc⟩:∃fg fcap,fv=.slice (some ⟨fg,0,none⟩) (F.length+1) fcap∧F.length+1≤fcap:=by
  rcases hfr.2 with ⟨_,e⟩ | ⟨fg,fcap,cur,e,_,_,hc,_⟩
  ·omega
  ·exact⟨fg,fcap,e,hc⟩
 subst hfv
 have hil:=(List.getElem?_eq_some_iff.1 hi).1
 have hfew:=h.few
 have ci:w.cell? ⟨fg,F.length,none⟩=some (.int .i64 (i:Int)):=by
  have:=hfr.cells (g:=fg) rfl F.length (.int .i64 (i:Int)) (by simp)
  rw [Go.WideShapes.add_plain,Nat.zero_add] at this
  exact this
 have hlv:S.live≤S.slots.length:=List.length_filter_le _ _
 obtain⟨av,acap,hav,_⟩:=id hn
 have hB1:=(Below.refl w.heap.size w).alloc (Nat.le_refl _) (.cells #[.int .i64 n.kind,.string ⟨n.name.toArray⟩,n.av,.string ⟨n.data.toArray⟩,.int .i64 n.parent,.int .i64 n.first,.int .i64 n.last,.int .i64 n.prev,.int .i64 n.next] 62)
 have hbx:=Blk.new w [.int .i64 n.kind,.string ⟨n.name.toArray⟩,n.av,.string ⟨n.data.toArray⟩,.int .i64 n.parent,.int .i64 n.first,.int .i64 n.last,.int .i64 n.prev,.int .i64 n.next] 62
 have nb:R≠w.heap.size:=by omega
 have hgw:=(h.slots.lt g rfl).2
 have hfw:=(hfr.lt fg rfl).2
 have hRg:R≠g:=fun e=>by
  obtain⟨cur,hc⟩:=own_ty h.slots (g:=g) rfl
  subst e
  exact blk_ne hc h.blk (by decide) rfl
 have hRf:R≠fg:=fun e=>by
  obtain⟨cur,hc⟩:=own_ty h.free (g:=fg) rfl
  subst e
  exact blk_ne hc h.blk (by decide) rfl
 have hgf:g≠fg:=fun e=>by
  obtain⟨cur,hc⟩:=own_ty h.free (g:=fg) rfl
  obtain⟨cur',hc'⟩:=own_ty h.slots (g:=g) rfl
  subst e
  exact blk_ne hc hc' (by decide) rfl
 have HT:=Lib.hid h
 have HN:=Lib.hid hn
 have HFr:=Lib.hid hfr
 have HHi:=Lib.hid hi
 have HF:=Lib.hid hF
 rw [hav] at hB1 hbx ⊢
 clear hn h hfr hi hF
 go_enter Tryz.func85,Tryz.ntmps85
 go_upto_region 1 with fail
 generalize w.alloc (.cells #[.int .i64 n.kind,.string ⟨n.name.toArray⟩,.slice av n.attrs.length acap,.string ⟨n.data.toArray⟩,.int .i64 n.parent,.int .i64 n.first,.int .i64 n.last,.int .i64 n.prev,.int .i64 n.next] 62)=W at *
 have e0:=cell_keep hB1 c0
 have e1:=cell_keep hB1 c1
 have e2:=cell_keep hB1 c2
 have e3:=cell_keep hB1 c3
 have e4:=cell_keep hB1 c4
 have ei:=cell_keep hB1 ci
 have zR:=(HT.out.below hB1).blk.free
 clear c0 c1 c2 c3 c4 ci
 go_upto_region 6 with fail
 have hT1:=HT.out.below hB1
 have kR:=hT1.blk.set 3 (.slice (some ⟨fg,0,none⟩) F.length fcap)
 simp only [List.set_cons_succ,List.set_cons_zero] at kR
 have kX:Blk (W.setCell ⟨R,3,none⟩ (.slice (some ⟨fg,0,none⟩) F.length fcap)) w.heap.size _ _:=hbx.setOther ⟨R,3,none⟩ (fun e=>nb e.symm) _
 have hch1:Chg (fun k=>k=R∨k=g) w (W.setCell ⟨R,3,none⟩ (.slice (some ⟨fg,0,none⟩) F.length fcap)):=(Chg.of_below hB1).setCell ⟨R,3,none⟩ (fun _=>.inl rfl) _
 have hs1:(W.setCell ⟨R,3,none⟩ (.slice (some ⟨fg,0,none⟩) F.length fcap)).ownsRow B 159 10 (.slice (some ⟨g,0,none⟩) S.slots.length cap) S.slots.length (rowC S.slots) :=
  own_kB hT1.slots (fun b hb=>Below.heap_setCell _ _ _ _ (by cases hb;exact fun e=>hRg e.symm))
 have HR1:=Lib.hid kR
 have HX1:=Lib.hid kX
 have HC1:=Lib.hid hch1
 have HS1:=Lib.hid hs1
 clear kR kX hch1 hs1 zR hT1 hbx e0 e1 e2 e3 e4 ei
 generalize W.setCell ⟨R,3,none⟩ (.slice (some ⟨fg,0,none⟩) F.length fcap)=w1 at *
 have r0:=HR1.out.cell 0
 have r2:=HR1.out.cell 2
 have x0:=HX1.out.cell 0
 have x1:=HX1.out.cell 1
 have x2:=HX1.out.cell 2
 have x3:=HX1.out.cell 3
 have x4:=HX1.out.cell 4
 have x5:=HX1.out.cell 5
 have x6:=HX1.out.cell 6
 have x7:=HX1.out.cell 7
 have x8:=HX1.out.cell 8
 simp only [zzD,zzE] at r0 r2 x0 x1 x2 x3 x4 x5 x6 x7 x8
 have sc:∀j,j < 10→w1.cell? ⟨g,i*10+j,none⟩=(slotC none)[j]?:=fun j hj=>by
  have hl:j < (slotC none).length:=by rw [slotC_len];exact hj
  rw [List.getElem?_eq_getElem hl]
  have:=HS1.out.cells (g:=g) rfl (i*10+j) (slotC none)[j] (by rw [rowC_at _ _ _ HHi.out _ hj,List.getElem?_eq_getElem hl])
  rw [Go.WideShapes.add_plain,Nat.zero_add] at this
  exact this
 have s0:=sc 0 (by omega)
 have s1:=sc 1 (by omega)
 have s2:=sc 2 (by omega)
 have s3:=sc 3 (by omega)
 have s4:=sc 4 (by omega)
 have s5:=sc 5 (by omega)
 have s6:=sc 6 (by omega)
 have s7:=sc 7 (by omega)
 have s8:=sc 8 (by omega)
 have s9:=sc 9 (by omega)
 simp only [slotC,zeroC,strV,zzD,zzE,Nat.add_zero] at s0 s1 s2 s3 s4 s5 s6 s7 s8 s9
 have sz:∀j,w1.frozen? ⟨g,j,none⟩=false:=fun j=>by
  rcases HS1.out.2 with ⟨e,_⟩ | ⟨g',cap',cur,e,_,hh,_⟩
  ·cases e
  ·cases e;exact Lib.frozen_of_heap hh _
 clear sc
 go_region
 have hrow2:=(own_setB (own_setB (own_setB (own_setB (own_setB (own_setB (own_setB (own_setB (own_setB (own_setB HS1.out (i*10) (.bool true)) (i*10+1) (.int .i64 n.kind)) (i*10+2) (.string ⟨n.name.toArray⟩)) (i*10+3) (.slice av n.attrs.length acap)) (i*10+4) (.string ⟨n.data.toArray⟩)) (i*10+5) (.int .i64 n.parent)) (i*10+6) (.int .i64 n.first)) (i*10+7) (.int .i64 n.last)) (i*10+8) (.int .i64 n.prev)) (i*10+9) (.int .i64 n.next))
 have hset:rowC (S.slots.set i (some n))=_:=rowC_put S.slots i (some n) hil
 simp only [slotC,ndC,hav,strV,setAll] at hset
 have hch2:=(((((((((((Chg.refl (fun k=>k=g) w1).setCell ⟨g,i*10,none⟩ (fun _=>(rfl:g=g)) (.bool true)).setCell ⟨g,i*10+1,none⟩ (fun _=>(rfl:g=g)) (.int .i64 n.kind)).setCell ⟨g,i*10+2,none⟩ (fun _=>(rfl:g=g)) (.string ⟨n.name.toArray⟩)).setCell ⟨g,i*10+3,none⟩ (fun _=>(rfl:g=g)) (.slice av n.attrs.length acap)).setCell ⟨g,i*10+4,none⟩ (fun _=>(rfl:g=g)) (.string ⟨n.data.toArray⟩)).setCell ⟨g,i*10+5,none⟩ (fun _=>(rfl:g=g)) (.int .i64 n.parent)).setCell ⟨g,i*10+6,none⟩ (fun _=>(rfl:g=g)) (.int .i64 n.first)).setCell ⟨g,i*10+7,none⟩ (fun _=>(rfl:g=g)) (.int .i64 n.last)).setCell ⟨g,i*10+8,none⟩ (fun _=>(rfl:g=g)) (.int .i64 n.prev)).setCell ⟨g,i*10+9,none⟩ (fun _=>(rfl:g=g)) (.int .i64 n.next))
 have hR2:=HR1.out.chg hch2 (fun e=>hRg e)
 have HRow:=Lib.hid hrow2
 have HSet:=Lib.hid hset
 have HC2:=Lib.hid hch2
 have HR2:=Lib.hid hR2
 clear hrow2 hset hch2 hR2 r0 r2 x0 x1 x2 x3 x4 x5 x6 x7 x8 s0 s1 s2 s3 s4 s5 s6 s7 s8 s9 sz
 generalize ((((((((((w1.setCell ⟨g,i*10,none⟩ (.bool true)).setCell ⟨g,i*10+1,none⟩ (.int .i64 n.kind)).setCell ⟨g,i*10+2,none⟩ (.string ⟨n.name.toArray⟩)).setCell ⟨g,i*10+3,none⟩ (.slice av n.attrs.length acap)).setCell ⟨g,i*10+4,none⟩ (.string ⟨n.data.toArray⟩)).setCell ⟨g,i*10+5,none⟩ (.int .i64 n.parent)).setCell ⟨g,i*10+6,none⟩ (.int .i64 n.first)).setCell ⟨g,i*10+7,none⟩ (.int .i64 n.last)).setCell ⟨g,i*10+8,none⟩ (.int .i64 n.prev)).setCell ⟨g,i*10+9,none⟩ (.int .i64 n.next))=w2 at *
 have r0:=HR2.out.cell 0
 have r1:=HR2.out.cell 1
 have r4:=HR2.out.cell 4
 have rz:=HR2.out.free
 simp only [zzD,zzE] at r0 r1 r4
 go_wp2_with fail
 refine(handle_any S.b S.s (i:Nat) _).mono ?_
 rintro e w3 ⟨rfl,hb3⟩
 go_wp2_with fail
 go_ret
 have hlf:=live_fill S.slots i n HHi.out
 have k4:=(HR2.out.set 4 (.int .i64 ((S.live:Int)+1)))
 simp only [List.set_cons_succ,List.set_cons_zero] at k4
 have hch4:Chg (fun k=>k=R∨k=g) w (w2.setCell ⟨R,4,none⟩ (.int .i64 ((S.live:Int)+1))):=(HC1.out.trans HC2.out (fun _ _ e=>.inr e)).setCell ⟨R,4,none⟩ (fun _=>.inl rfl) _
 replace hb3:Below (w2.setCell ⟨R,4,none⟩ (.int .i64 ((S.live:Int)+1))).heap.size (w2.setCell ⟨R,4,none⟩ (.int .i64 ((S.live:Int)+1))) w3:=⟨hb3.os,hb3.tape,hb3.output,hb3.size,hb3.block⟩
 have hch5:=hch4.trans (Chg.of_below (F:=fun k=>k=R∨k=g) hb3) (fun _ _ e=>e)
 have oth:∀{k:Nat} {cs:Array Value} {t:TypeId},w.heap[k]? = some (.cells cs t (0,0))→t≠159→t≠57→w3.heap[k]? = w.heap[k]?:=fun {k cs t} hk h1 h2=>hch5.block k (lt_of_block hk) (fun e=>by
  rcases e with rfl | rfl
  ·exact blk_ne hk HT.out.blk h2 rfl
  ·obtain⟨cur,hc⟩:=own_ty HT.out.slots (g:=k) rfl
   exact blk_ne hk hc h1 rfl)
 refine⟨.slice (some ⟨fg,0,none⟩) F.length fcap,rfl,⟨?_,?_,?_,?_,HT.out.base,by simp only [List.length_set];exact hfew⟩,hch5,rfl⟩
 ·have:=k4.below hb3
  unfold Tr.live at *
  simp only []
  rw [hlf]
  exact this
 ·simp only [List.length_set]
  rw [HSet.out]
  refine own_kB HRow.out (fun b hb=>?_)
  have hbg:b=g:=by cases hb;rfl
  subst hbg
  have hl2:b < w2.heap.size:=(HRow.out.lt b rfl).2
  exact(hb3.block b (by simp [World.setCell];exact hl2)).trans (Below.heap_setCell _ _ _ _ (fun e=>hRg e.symm))
 ·have h1:=own_popB HFr.out
  have h2:=own_kB h1 (w':=w3) (fun b hb=>by
   obtain⟨cur,hc⟩:=own_ty HT.out.free (g:=b) (by cases hb;rfl)
   exact oth hc (by decide) (by decide))
  have e:(List.map (fun(i:Nat)=>Value.int .i64 (i:Int)) (F ++ [i])).take (F.length*1)=F.map (fun(i:Nat)=>Value.int .i64 (i:Int)):=by
   rw [Nat.mul_one,List.map_append,List.take_append_of_le_length (by simp),List.take_of_length_le (by simp)]
  rw [e] at h2
  exact h2
 ·intro k m hk
  have hcase:(k=i∧m=n)∨S.slots[k]? = some (some m):=by
   simp only [] at hk
   rw [List.getElem?_set] at hk
   by_cases e:i=k
   ·rw [if_pos e,if_pos hil] at hk;cases hk;exact .inl ⟨e.symm,rfl⟩
   ·rw [if_neg e] at hk;exact .inr hk
  have keepA:∀{v l},AttrAt B w v l→AttrAt B w3 v l:=fun {v l} ha=>by
   obtain⟨a,c,e,h'⟩:=ha
   refine⟨a,c,e,h'.imp id ?_⟩
   rintro⟨b,cur,e2,hB,hg,hc⟩
   exact⟨b,cur,e2,hB,(oth hg (by decide) (by decide)).trans hg,hc⟩
  rcases hcase with ⟨rfl,rfl⟩ | hk
  ·exact keepA HN.out
  ·exact keepA (HT.out.attrs k m hk)
theorem add_any {B R:Nat}{S:Tr}{sv fv:Value}{w:World}(h:TAt B R S sv fv w)(hfr:∀i∈S.free,S.slots[i]? = some none)(hfl:S.free.length≤1000000)(hl:S.slots.length < 1000000)(n:Nd)(hn:AttrAt B w n.av n.attrs) :
  Calls Tryz.prog 85 #[.pointer (some ⟨R,0,none⟩),.agg #[.int .i64 n.kind,.string ⟨n.name.toArray⟩,n.av,.string ⟨n.data.toArray⟩,.int .i64 n.parent,.int .i64 n.first,.int .i64 n.last,.int .i64 n.prev,.int .i64 n.next]] w fun e w'=>∃sv' fv',e=.returned (.int .i64 (S.hd S.addI)) ∧
   TAt B R (S.add n) sv' fv' w'∧Chg (fun k=>k=R∨sv.ownBlock=some k) w w'∧(sv'.ownBlock=sv.ownBlock∨∃k,sv'.ownBlock=some k∧w.heap.size≤k)∧fv'.ownBlock=fv.ownBlock:=by
 cases e:S.free.getLast? with
 | none =>
  have e':S.free=[]:=by simpa using e
  have ha:S.add n=S.snoc n:=by unfold Tr.add;rw [e]
  have hi:S.addI=S.slots.length:=by unfold Tr.addI;rw [e];rfl
  rw [ha,hi]
  refine(add_new h e' hl n hn).mono ?_
  rintro e w' ⟨sv',rfl,h1,h2,h3⟩
  exact⟨sv',fv,rfl,h1,h2,h3,rfl⟩
 | some i =>
  obtain⟨F,hF⟩:=List.getLast?_eq_some_iff.1 e
  have hi:=hfr i (List.mem_of_getLast? e)
  have hil:=(List.getElem?_eq_some_iff.1 hi).1
  obtain⟨g,cap,rfl⟩:=slots_some h (by omega)
  have ha:S.add n={ S with slots:=S.slots.set i (some n),free:=F }:=by unfold Tr.add;rw [e,hF];simp
  have hi2:S.addI=i:=by unfold Tr.addI;rw [e];rfl
  rw [ha,hi2]
  refine(add_old h hF hi n hn (by rw [hF] at hfl;simp at hfl;omega)).mono ?_
  rintro e w' ⟨fv',rfl,h1,h2,h3⟩
  exact⟨_,fv',rfl,h1,h2.mono (fun k _ hk=>hk.imp id (fun e=>by rw [e];rfl)),.inl rfl,h3⟩
theorem All.setSls {B:Nat}{w0:World}(l1:List Ob){l2:List Ob}{g n cap size:Nat}{e:TypeId}:∀(vs:List Value) (o:Nat) {w:World} {xs:List Value},All B w0 (l1 ++ sl e size (.slice (some ⟨g,0,none⟩) n cap) n xs :: l2) w →
  All B w0 (l1 ++ sl e size (.slice (some ⟨g,0,none⟩) n cap) n (setAll xs o vs) :: l2) (w.setCells g o vs)
 | [],_,_,_,h=>h
 | v :: vs,o,_,_,h=>All.setSls l1 vs (o+1) (h.setSl l1 o v)
theorem setAll_len:∀(vs xs:List Value) (o:Nat),(setAll xs o vs).length=xs.length
 | [],_,_=>rfl
 | v :: vs,xs,o=>by simp only [setAll];rw [setAll_len];simp
theorem setAll_take:∀(vs xs:List Value) (o:Nat),(setAll xs o vs).take o=xs.take o
 | [],_,_=>rfl
 | v :: vs,xs,o=>by
  simp only [setAll]
  have h:=setAll_take vs (xs.set o v) (o+1)
  have h2:∀(a b:List Value),a.take (o+1)=b.take (o+1)→a.take o=b.take o:=fun a b h=>by
   have:=congrArg (List.take o) h
   simpa [List.take_take] using this
  rw [h2 _ _ h,List.take_set_of_le (Nat.le_refl _)]
theorem run_clear_all {P:Program}{t e ty:TypeId}{size:Nat}(ht:P.underlying t=some (.slice e)){z:Value}(hv:∀w,(zeroValue e).run P w=.ok z w)(hz:z.cells.size=size)(hpos:0 < size)(h1:∀u∈z.cells.toList,u.oneCell'=true)
  {B:Nat}{w0 w:World}(l1:List Ob){l2:List Ob}{g n cap i:Nat}{xs:List Value}(h:All B w0 (l1 ++ sl e size (.slice (some ⟨g,0,none⟩) n cap) n xs :: l2) w)(hi:i < n)(c:Nat) :
  ∃w' zs,(Builtin.clear_ #[t] ty #[.slice (some ⟨g,i*size,none⟩) (n - i) c]).run P w=.ok (.tuple #[]) w'∧zs.length=(n - i)*size∧All B w0 (l1 ++ sl e size (.slice (some ⟨g,0,none⟩) n cap) n (setAll xs (i*size) zs) :: l2) w':=by
 have hown:Own w e size (.slice (some ⟨g,0,none⟩) n cap) n xs:=h.mid
 have hlen:xs.length=n*size:=hown.1
 have hzl:(Builtin.zeroCells z.cells (n - i)).toList.length=(n - i)*size:=by simp [Builtin.zeroCells,hz]
 have hmul:(n - i)*size+i*size=n*size:=by rw [← Nat.add_mul];congr 1;omega
 have hst:=run_storeCells_cells (P:=P) g (i*size) (Builtin.zeroCells z.cells (n - i)).toList 0 w
  (fun j hj=>by
   rw [hown.cellAt (i*size+0+j) (by rw [hzl] at hj;omega),List.getElem?_eq_getElem (by rw [hzl] at hj;omega)]
   rfl)
  (fun j hj=>hown.frozenAt _)
  (fun u hu=>by
   rw [Builtin.zeroCells,hz] at hu
   simp only [Array.toList_map,Array.toList_range,List.mem_map,List.mem_range] at hu
   obtain⟨k,hk,rfl⟩:=hu
   have hk':k % size < z.cells.size:=by rw [hz];exact Nat.mod_lt _ hpos
   rw [getElem!_pos z.cells _ hk']
   exact h1 _ (by simp))
 rw [Nat.add_zero] at hst
 refine⟨_,(Builtin.zeroCells z.cells (n - i)).toList,?_,hzl,All.setSls l1 _ _ h⟩
 obtain⟨m,hm⟩:∃m,n - i=m+1:=⟨n - i - 1,by omega⟩
 rw [hm] at hst ⊢
 simp [Builtin.clear_,run_underlying ht,hv,hst]
theorem wpList_clear_all {P:Program}{t e:TypeId}{size:Nat}(ht:P.underlying t=some (.slice e)){z:Value}(hv:∀w,(zeroValue e).run P w=.ok z w)(hz:z.cells.size=size)(hpos:0 < size)(h1:∀u∈z.cells.toList,u.oneCell'=true)
  {B:Nat}{w0 w:World}(l1:List Ob){l2:List Ob}{g n cap i:Nat}{xs:List Value}(h:All B w0 (l1 ++ sl e size (.slice (some ⟨g,0,none⟩) n cap) n xs :: l2) w)(hi:i < n)
  {ops:Array Oper}{rest:List Oper}{o:Oper}{a:Act}{Q:Exit→Act→World→Prop}(hgd:o.guard=none)(s:Operand)(ho:o.op=.call { callee:=.builtin .clear,args:=#[s],argTypes:=#[t] }){c:Nat}(hd:a.eval s=.slice (some ⟨g,i*size,none⟩) (n - i) c)
  (hc:∀w' zs,All B w0 (l1 ++ sl e size (.slice (some ⟨g,0,none⟩) n cap) n (setAll xs (i*size) zs) :: l2) w'→wpList P ops Q rest (a.put o.dst (.tuple #[])) w'):wpList P ops Q (o :: rest) a w :=
 wpList_plain hgd fun K hK=>by
  obtain⟨w',zs,hr,_,h2⟩:=run_clear_all (P:=P) (ty:=o.type) ht hv hz hpos h1 l1 h hi c
  unfold Oper.wp execOp
  simp only [ho,resolve,invoke,builtin,Sem.run_bind,Sem.run_pure,Result.andThen_ok,List.map_toArray,List.map_cons,List.map_nil,hd,hr]
  exact hK _ _ (hc w' zs h2)
theorem own_trunc {w:World}{e:TypeId}{size g n cap i:Nat}{xs:List Value}(h:Own w e size (.slice (some ⟨g,0,none⟩) n cap) n xs)(hi:i≤n):Own w e size (.slice (some ⟨g,0,none⟩) i cap) i (xs.take (i*size)):=by
 obtain⟨h1,h2⟩:=h
 have hmul:i*size≤n*size:=Nat.mul_le_mul_right _ hi
 refine⟨by rw [List.length_take,h1];exact Nat.min_eq_left hmul,?_⟩
 rcases h2 with ⟨h',_⟩ | ⟨g',cap',cur,h',hb,hg,hc,hm,hs,ht⟩
 ·simp at h'
 ·simp only [Value.slice.injEq,Option.some.injEq,Addr.mk.injEq,and_true,true_and] at h'
  obtain⟨rfl,rfl⟩:=h'
  refine .inr ⟨g,cap,cur,rfl,hb,hg,by omega,hm,hs,?_⟩
  rw [← ht,List.take_take,Nat.min_eq_left hmul]
theorem All.trunc {B:Nat}{w0 w:World}(l1:List Ob){l2:List Ob}{g n cap size i:Nat}{e:TypeId}{xs:List Value}(h:All B w0 (l1 ++ sl e size (.slice (some ⟨g,0,none⟩) n cap) n xs :: l2) w)(hi:i≤n) :
  All B w0 (l1 ++ sl e size (.slice (some ⟨g,0,none⟩) i cap) i (xs.take (i*size)) :: l2) w :=
 h.step l1 (o':=sl e size (.slice (some ⟨g,0,none⟩) i cap) i (xs.take (i*size))) (own_trunc h.mid hi) (Chg.refl _ _) (fun k hk=>.inl hk)
theorem setAll_at:∀(vs xs:List Value) (o:Nat),o+vs.length≤xs.length→setAll xs o vs=xs.take o ++ vs ++ xs.drop (o+vs.length)
 | [],xs,o,_=>by simp [setAll]
 | v :: vs,xs,o,h=>by
  rw [List.length_cons] at h
  show setAll (xs.set o v) (o+1) vs=_
  rw [setAll_at vs (xs.set o v) (o+1) (by rw [List.length_set];omega)]
  rw [List.take_add_one,List.getElem?_set_self (by omega),List.take_set_of_le (Nat.le_refl _),List.drop_set_of_lt (by omega),List.length_cons,show o+1+vs.length=o+(vs.length+1) by omega]
  simp
theorem attrC_take (l:List Atr)(i:Nat):(attrC l).take (2*i)=attrC (l.take i):=by
 induction l generalizing i with
 | nil=>simp [attrC]
 | cons x l ih =>
  cases i with
  | zero=>simp [attrC]
  | succ i =>
   have:=ih i
   show(atC x ++ attrC l).take (2*(i+1))=atC x ++ attrC (l.take i)
   rw [← this,show 2*(i+1)=(atC x).length+2*i by show _=2+_;omega,List.take_length_add_append]
theorem attrC_drop (l:List Atr)(i:Nat):(attrC l).drop (2*i)=attrC (l.drop i):=by
 induction l generalizing i with
 | nil=>simp [attrC]
 | cons x l ih =>
  cases i with
  | zero=>simp
  | succ i =>
   have:=ih i
   show(atC x ++ attrC l).drop (2*(i+1))=attrC (l.drop i)
   rw [← this,show 2*(i+1)=(atC x).length+2*i by show _=2+_;omega,List.drop_length_add_append]
theorem attrC_app (a b:List Atr):attrC (a ++ b)=attrC a ++ attrC b:=by unfold attrC;simp
theorem all_own {B:Nat}{w0 w:World}{l:List Ob}{e:TypeId}{size g cap n:Nat}{xs:List Value}(h:All B w0 (sl e size (.slice (some ⟨g,0,none⟩) n cap) n xs :: l) w):w.ownsRow B e size (.slice (some ⟨g,0,none⟩) n cap) n xs:=by
 have hO:Own _ _ _ _ _ _:=h.head
 obtain⟨h1,h2⟩:=hO
 refine⟨h1,?_⟩
 have hb:=h.base _ (List.Mem.head _) g rfl
 rcases h2 with ⟨e,_⟩ | ⟨g',cap',cur,e,_,rest⟩
 ·cases e
 ·cases e;exact .inr ⟨g,_,cur,rfl,hb,rest⟩
theorem zeroAttr:∀w,(zeroValue 91).run Tryz.prog w=.ok (.agg #[.string ⟨#[]⟩,.string ⟨#[]⟩]) w:=fun w=>by
 first | exact Tryz.zeroValue91 w | (simp [Tryz.zeroValue91])
theorem zA_size:(Value.agg #[.string ⟨#[]⟩,.string ⟨#[]⟩]).cells.size=2:=rfl
theorem zA_one:∀u∈(Value.agg #[.string ⟨#[]⟩,.string ⟨#[]⟩]).cells.toList,u.oneCell'=true:=by intro u hu;simp [Value.cells] at hu;subst hu;rfl
theorem delete_attr {B:Nat}{w0 w:World}{g cap:Nat}{l:List Atr}{rest:List Ob}(h:All B w0 (sl 91 2 (.slice (some ⟨g,0,none⟩) l.length cap) l.length (attrC l) :: rest) w)(i:Nat)(hi:i < l.length)(hl:l.length≤1000) :
  Calls Tryz.prog 60 #[.slice (some ⟨g,0,none⟩) l.length cap,.int .i64 (i:Int),.int .i64 ((i:Int)+1)] w fun e w'=>e=.returned (.slice (some ⟨g,0,none⟩) (l.length - 1) cap) ∧
   All B w0 (sl 91 2 (.slice (some ⟨g,0,none⟩) (l.length - 1) cap) (l.length - 1) (attrC (l.eraseIdx i)) :: rest) w':=by
 obtain⟨i0,hi0,hz0,hz1,hz2⟩:=info_parts infoA
 have hO:Own _ _ _ _ _ _:=h.head
 have hA:=attrC_len l
 have hcap:l.length≤cap∧cap≤maxLen:=by
  rcases hO.2 with ⟨e,_⟩ | ⟨g',cap',cur,e,_,_,hc,hm,_⟩
  ·cases e
  ·cases e;exact⟨hc,hm⟩
 have hcm:cap≤9223372036854775807:=by have:=hcap.2;unfold maxLen at this;omega
 have hcl:=hcap.1
 obtain⟨news,hnews⟩:∃news,news=(attrC l).drop (2*(i+1)):=⟨_,rfl⟩
 have hlen:news.length=2*(l.length - (i+1)):=by rw [hnews,List.length_drop,hA];omega
 have hdr:=h.drew
 have hOd:Own w.drew _ _ _ _ _:=hdr.head
 obtain⟨A,hA1,hsrc⟩:∃A:Addr,(if cap=i+1 then some (⟨g,0,none⟩:Addr) else some ⟨g,(i+1)*2,none⟩)=some A∧Hid (∀t u,news[t]? = some u→w.drew.cell? (A.add t)=some u):=by
  by_cases hc:cap=i+1
  ·refine⟨⟨g,0,none⟩,by simp [hc],Lib.hid fun t u hu=>?_⟩
   have h0:news.length=0:=by rw [hlen];omega
   rw [List.length_eq_zero_iff.1 h0] at hu
   simp at hu
  ·refine⟨⟨g,(i+1)*2,none⟩,by simp [hc],Lib.hid fun t u hu=>?_⟩
   rw [hnews,List.getElem?_drop] at hu
   have:=own_news hOd _ u hu
   rw [Go.WideShapes.add_plain] at this ⊢
   rw [show(i+1)*2+t=0+(2*(i+1)+t) by omega]
   exact this
 have s1:=Lib.hid (show news.length=(l.length - (i+1))*2 by rw [hlen];omega)
 have s2:=Lib.hid (show ∀u∈news,u.oneCell'=true from fun u hu=>attrC_one l u (by rw [hnews] at hu;exact List.mem_of_mem_drop hu))
 have s3:=Lib.hid (show ∀t,t < news.length→(w.drew.cell? ⟨g,0+i*2+t,none⟩).isSome=true∧w.drew.frozen? ⟨g,0+i*2+t,none⟩=false from fun t ht=>by
  refine⟨?_,hOd.frozenAt _⟩
  have:=hOd.cellAt (0+i*2+t) (by rw [hlen] at ht;omega)
  rw [this,List.getElem?_eq_getElem (by rw [hA];rw [hlen] at ht;omega)]
  rfl)
 have hA2:=hdr.setSls [] news (0+i*2)
 have HA2:=Lib.hid hA2
 clear hA2 h hO hOd hdr hA
 go_enter Tryz.func60,Tryz.ntmps60
 go_wp2_with fail
 have mixed:Tryz.prog.follows .mixedOrders=true:=by kernel_rfl
 have hic:i≤cap:=by omega
 have hjc:i+1≤cap:=by omega
 have hbb:0≤(i:Int)+1∧(i:Int)+1≤(l.length:Int):=by omega
 have Hnews:=Lib.hid hnews
 have Hlen:=Lib.hid hlen
 clear hnews hlen
 go_region_law_o (refine step_append_room rfl (.tmp 22) (.tmp 25) 60 rfl 91 i0 2 Tryz.underlying60 hi0 hz1 g 0 i cap (by simp [Act.eval,Act.put]) A (l.length - (i+1)) (cap - (i+1)) news (by simp [Act.eval,Act.put,hA1]) s1.out hsrc.out s2.out (by omega) s3.out ?_)
 rw [show i+(l.length - (i+1))=l.length - 1 by omega]
 simp only [List.nil_append,Nat.zero_add] at HA2
 clear hsrc s1 s2 s3 hA1 mixed
 generalize w.drew.setCells g (i*2) news=w2 at *
 have hcne:¬cap=l.length - 1:=by omega
 have hcl1:l.length - 1≤cap:=by omega
 have hcl2:l.length - 1≤l.length:=by omega
 have hbi:0≤((l.length - 1:Nat):Int)∧((l.length - 1:Nat):Int)≤(l.length:Int):=by omega
 have hij':l.length - 1 < l.length:=by omega
 go_wp2_with (((with_reducible refine wpList_clear_all (i:=l.length - 1) (c:=cap - (l.length - 1)) Tryz.underlying60 zeroAttr zA_size (by omega) zA_one [] HA2.out hij' rfl (.tmp 31) rfl ?_ ?_);(rfl);(intro w3 zs hA3);(have HA3:=Lib.hid hA3);(clear hA3)))
 go_ret
 refine⟨rfl,?_⟩
 have h4:=All.trunc [] HA3.out (show l.length - 1≤l.length by omega)
 rw [setAll_take,setAll_at _ _ _ (by rw [attrC_len,Hlen.out];omega),Hnews.out] at h4
 have e:(((attrC l).take (i*2) ++ (attrC l).drop (2*(i+1)) ++ (attrC l).drop (i*2+((attrC l).drop (2*(i+1))).length)).take ((l.length - 1)*2))=attrC (l.eraseIdx i):=by
  rw [show i*2=2*i by omega,attrC_take,attrC_drop,List.take_append_of_le_length (by rw [List.length_append,attrC_len,attrC_len,List.length_take,List.length_drop];omega),← attrC_app,show(l.length - 1)*2=2*(l.length - 1) by omega,attrC_take,List.eraseIdx_eq_take_drop_succ,List.take_of_length_le (by rw [List.length_append,List.length_take,List.length_drop];omega)]
 rw [e] at h4
 exact h4
end Go.Proofs.YtfelmdkeaacfeaaGreatDoor.W
end
