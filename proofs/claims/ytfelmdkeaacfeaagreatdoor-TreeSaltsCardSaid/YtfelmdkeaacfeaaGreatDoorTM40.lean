/- Texts joined: Nod Tcp Tcy. -/
import Derived.Test.YtfelmdkeaacfeaaGreatDoorTM1
import Derived.Test.YtfelmdkeaacfeaaGreatDoorTM29
import Derived.Test.YtfelmdkeaacfeaaGreatDoorTM18
import Derived.Test.YtfelmdkeaacfeaaGreatDoorTM21
import Derived.Test.YtfelmdkeaacfeaaGreatDoorTM5
import Derived.Test.YtfelmdkeaacfeaaGreatDoorTM16
set_option maxRecDepth 100000
set_option maxHeartbeats 40000000
set_option linter.unusedVariables false
set_option linter.unusedSimpArgs false
section
namespace Go.Proofs.YtfelmdkeaacfeaaGreatDoor.W
open Go.RowKit
def zeroN:Nd:=⟨0,[],.slice none 0 0,[],[],0,0,0,0,0⟩
theorem res_nd {fn:Func}(h:fn.results=#[.cell 4 62,.tmp 5]){tmps:Array Value}{w:World}{r:Nat}{n:Nd}(hp:tmps.getD 4 undef=.pointer (some ⟨r,0,none⟩))(hk:Blk w r (ndC n) 62) :
  (results fn tmps).run Tryz.prog w=.ok (.tuple #[.agg (ndC n).toArray,tmps.getD 5 undef]) w:=by
 have c0:=hk.cell 0
 have c1:=hk.cell 1
 have c2:=hk.cell 2
 have c3:=hk.cell 3
 have c4:=hk.cell 4
 have c5:=hk.cell 5
 have c6:=hk.cell 6
 have c7:=hk.cell 7
 have c8:=hk.cell 8
 simp only [ndC,zzD,zzE] at c0 c1 c2 c3 c4 c5 c6 c7 c8
 rw [Array.getD_eq_getD_getElem?] at hp
 simp [results,h,hp,go_sem,ndC,c0,c1,c2,c3,c4,c5,c6,c7,c8]
theorem Blk.over {w:World}{r:Nat}{a:List Value}(n:Nd)(k:Blk w r a 62)(ha:a.length=9) :
  Blk (((((((((w.setCell ⟨r,0,none⟩ (.int .i64 n.kind)).setCell ⟨r,1,none⟩ (strV n.name)).setCell ⟨r,2,none⟩ n.av).setCell ⟨r,3,none⟩ (strV n.data)).setCell ⟨r,4,none⟩ (.int .i64 n.parent)).setCell ⟨r,5,none⟩ (.int .i64 n.first)).setCell ⟨r,6,none⟩ (.int .i64 n.last)).setCell ⟨r,7,none⟩ (.int .i64 n.prev)).setCell ⟨r,8,none⟩ (.int .i64 n.next)) r (ndC n) 62:=by
 have h9:=((((((((k.set 0 (.int .i64 n.kind)).set 1 (strV n.name)).set 2 n.av).set 3 (strV n.data)).set 4 (.int .i64 n.parent)).set 5 (.int .i64 n.first)).set 6 (.int .i64 n.last)).set 7 (.int .i64 n.prev)).set 8 (.int .i64 n.next)
 match a,ha with
 | [_,_,_,_,_,_,_,_,_],_=>simpa [ndC] using h9
theorem Below.over {B:Nat}{w0 w:World}{r:Nat}(n:Nd)(h:Below B w0 w)(hr:B≤r) :
  Below B w0 (((((((((w.setCell ⟨r,0,none⟩ (.int .i64 n.kind)).setCell ⟨r,1,none⟩ (strV n.name)).setCell ⟨r,2,none⟩ n.av).setCell ⟨r,3,none⟩ (strV n.data)).setCell ⟨r,4,none⟩ (.int .i64 n.parent)).setCell ⟨r,5,none⟩ (.int .i64 n.first)).setCell ⟨r,6,none⟩ (.int .i64 n.last)).setCell ⟨r,7,none⟩ (.int .i64 n.prev)).setCell ⟨r,8,none⟩ (.int .i64 n.next)) :=
 (((((((((h.setCell (p:=⟨r,0,none⟩) hr _).setCell (p:=⟨r,1,none⟩) hr _).setCell (p:=⟨r,2,none⟩) hr _).setCell (p:=⟨r,3,none⟩) hr _).setCell (p:=⟨r,4,none⟩) hr _).setCell (p:=⟨r,5,none⟩) hr _).setCell (p:=⟨r,6,none⟩) hr _).setCell (p:=⟨r,7,none⟩) hr _).setCell (p:=⟨r,8,none⟩) hr _)
theorem get_none {B R:Nat}{S:Tr}{sv fv:Value}{w:World}(h:TAt B R S sv fv w)(hd:Int)(hh:HOk hd)(hk:S.ix hd=none) :
  Calls Tryz.prog 71 #[.pointer (some ⟨R,0,none⟩),.int .i64 hd] w fun e w'=>e=.returned (.tuple #[.agg (ndC zeroN).toArray,.bool false])∧Below w.heap.size w w':=by
 have HF:=Lib.hid (fun wx (hb:Below w.heap.size w wx)=>find_none (h.below hb) hd hh hk)
 clear h hk
 have hb1:=(Below.refl w.heap.size w).alloc (Nat.le_refl _) (.cells (ndC zeroN).toArray 62)
 have k1:=Blk.new w (ndC zeroN) 62
 go_enter Tryz.func71,Tryz.ntmps71
 go_wp2_with fail
 refine(HF.out _ hb1).mono ?_
 rintro e w2 ⟨rfl,hb2⟩
 have k2:=Blk.below k1 hb2
 have HB2:=Lib.hid (bthen hb1 hb2)
 simp only [ndC,zeroN,strV] at k2 ⊢
 have c0:=k2.cell 0
 have c1:=k2.cell 1
 have c2:=k2.cell 2
 have c3:=k2.cell 3
 have c4:=k2.cell 4
 have c5:=k2.cell 5
 have c6:=k2.cell 6
 have c7:=k2.cell 7
 have c8:=k2.cell 8
 have cf:=k2.free
 simp only [zzD,zzE] at c0 c1 c2 c3 c4 c5 c6 c7 c8
 have hlt:=k2.lt
 clear k1 hb1 hb2 HF
 go_wp2_with fail
 have k9:=(Blk.over zeroN k2 rfl).alloc (.cells (ndC zeroN).toArray 62)
 have b9:=(Below.over zeroN HB2.out (Nat.le_refl w.heap.size)).alloc (by simp [World.setCell];omega) (.cells (ndC zeroN).toArray 62)
 exact bodyPost_ret (res_nd (by rfl) (by rfl) k9) rfl ⟨rfl,b9⟩
theorem get_some {B R g cap:Nat}{S:Tr}{fv:Value}{w:World}(h:TAt B R S (.slice (some ⟨g,0,none⟩) S.slots.length cap) fv w)(hd:Int)(hh:HOk hd){k:Nat}(hk:S.ix hd=some k){n:Nd}(hn:S.slots[k]? = some (some n)) :
  Calls Tryz.prog 71 #[.pointer (some ⟨R,0,none⟩),.int .i64 hd] w fun e w'=>e=.returned (.tuple #[.agg (ndC n).toArray,.bool true])∧Below w.heap.size w w':=by
 obtain⟨nk,nn,nav,nal,nda,np,nf,nl,npv,nx⟩:=n
 obtain⟨av,acap,hav,_⟩:=h.attrs k _ hn
 simp only [] at hav
 subst hav
 have HF:=Lib.hid (fun wx (hb:Below w.heap.size w wx)=>find_some (h.below hb) hd hh hk)
 have HT:=Lib.hid h
 have hgl:=(h.slots.lt g rfl).2
 obtain⟨_,hkl,_⟩:=ix_some hk
 have HN:=Lib.hid hn
 clear h hk hn
 have hb1:=(Below.refl w.heap.size w).alloc (Nat.le_refl _) (.cells (ndC zeroN).toArray 62)
 have k1:=Blk.new w (ndC zeroN) 62
 go_enter Tryz.func71,Tryz.ntmps71
 go_wp2_with fail
 refine(HF.out _ hb1).mono ?_
 rintro e w2 ⟨rfl,hb2⟩
 have k2:=Blk.below k1 hb2
 have HB2:=Lib.hid (bthen hb1 hb2)
 have hT2:=HT.out.below HB2.out
 have s1:=slot_cell hT2 HN.out 1 (by omega)
 have s2:=slot_cell hT2 HN.out 2 (by omega)
 have s3:=slot_cell hT2 HN.out 3 (by omega)
 have s4:=slot_cell hT2 HN.out 4 (by omega)
 have s5:=slot_cell hT2 HN.out 5 (by omega)
 have s6:=slot_cell hT2 HN.out 6 (by omega)
 have s7:=slot_cell hT2 HN.out 7 (by omega)
 have s8:=slot_cell hT2 HN.out 8 (by omega)
 have s9:=slot_cell hT2 HN.out 9 (by omega)
 simp only [slotC,ndC,strV,zzD,zzE] at s1 s2 s3 s4 s5 s6 s7 s8 s9
 simp only [ndC,zeroN,strV] at k2 ⊢
 have c0:=k2.cell 0
 have c1:=k2.cell 1
 have c2:=k2.cell 2
 have c3:=k2.cell 3
 have c4:=k2.cell 4
 have c5:=k2.cell 5
 have c6:=k2.cell 6
 have c7:=k2.cell 7
 have c8:=k2.cell 8
 have cf:=k2.free
 simp only [zzD,zzE] at c0 c1 c2 c3 c4 c5 c6 c7 c8
 have hlt:=k2.lt
 have hne:g≠w.heap.size:=by omega
 have hg2:=(hT2.slots.lt g rfl).2
 clear k1 hb1 hb2 HF hT2
 go_wp2_with fail
 have k9:=Blk.over ⟨nk,nn,.slice av nal.length acap,nal,nda,np,nf,nl,npv,nx⟩ k2 rfl
 have b9:=Below.over ⟨nk,nn,.slice av nal.length acap,nal,nda,np,nf,nl,npv,nx⟩ HB2.out (Nat.le_refl w.heap.size)
 exact bodyPost_ret (res_nd (by rfl) (by rfl) k9) rfl ⟨rfl,b9⟩
theorem attr_below {B:Nat}{w w':World}{v:Value}{l:List Atr}(h:AttrAt B w v l)(hb:Below w.heap.size w w'):AttrAt B w' v l:=by
 obtain⟨a,c,e,h'⟩:=h
 refine⟨a,c,e,h'.imp id ?_⟩
 rintro⟨b,cur,e2,hB,hg,hc⟩
 exact⟨b,cur,e2,hB,(hb.block b (lt_of_block hg)).trans hg,hc⟩
theorem node_x {B R:Nat}{w:World}(n:Nd)(b:Bool)(hd:Int)(HG:∀wx,Below w.heap.size w wx→Calls Tryz.prog 71 #[.pointer (some ⟨R,0,none⟩),.int .i64 hd] wx fun e w'=>e=.returned (.tuple #[.agg (ndC n).toArray,.bool b])∧Below wx.heap.size wx w')
  (ha:AttrAt B w n.av n.attrs)(hl:n.attrs.length≤1000)(hz:∀j,w.frozen? ⟨R,j,none⟩=false)(hR:R < w.heap.size) :
  Calls Tryz.prog 24 #[.pointer (some ⟨R,0,none⟩),.int .i64 hd] w fun e w'=>∃v',e=.returned (.tuple #[.agg (ndC { n with av:=v' }).toArray,.bool b])∧w'.ownsRow w.heap.size 91 2 v' n.attrs.length (attrC n.attrs)∧Below w.heap.size w w':=by
 obtain⟨nk,nn,nav,nal,nda,np,nf,nl,npv,nx⟩:=n
 obtain⟨av,acap,hav,_⟩:=id ha
 simp only [] at hav
 subst hav
 have HGe:=Lib.hid HG
 have HA:=Lib.hid (fun wx (hb:Below w.heap.size w wx)=>(show Calls Tryz.prog 61 #[.slice av nal.length acap] wx _ from clone_attr (attr_below ha hb) hl))
 clear HG ha
 have hb1:=(Below.refl w.heap.size w).alloc (Nat.le_refl _) (.cells (ndC zeroN).toArray 62)
 have k1:=Blk.new w (ndC zeroN) 62
 go_enter Tryz.func24,Tryz.ntmps24
 go_wp2_with fail
 refine(HGe.out _ hb1).mono ?_
 rintro e w2 ⟨rfl,hb2⟩
 simp only [ndC,zeroN,strV] at k1 ⊢
 have k2:=Blk.below k1 hb2
 have hb02:=bthen hb1 hb2
 have k3:=k2.alloc (.cells #[.int .i64 nk,.string ⟨nn.toArray⟩,.slice av nal.length acap,.string ⟨nda.toArray⟩,.int .i64 np,.int .i64 nf,.int .i64 nl,.int .i64 npv,.int .i64 nx] 62)
 have kn:=Blk.new w2 [.int .i64 nk,.string ⟨nn.toArray⟩,.slice av nal.length acap,.string ⟨nda.toArray⟩,.int .i64 np,.int .i64 nf,.int .i64 nl,.int .i64 npv,.int .i64 nx] 62
 have hb3:=hb02.alloc hb02.size (.cells #[.int .i64 nk,.string ⟨nn.toArray⟩,.slice av nal.length acap,.string ⟨nda.toArray⟩,.int .i64 np,.int .i64 nf,.int .i64 nl,.int .i64 npv,.int .i64 nx] 62)
 have hl2:=k2.lt
 have hne:w2.heap.size≠w.heap.size:=by omega
 clear k1 k2 hb1 hb2
 go_wp2_with fail
 generalize hr2:w2.heap.size=r2 at *
 generalize w2.alloc (.cells #[.int .i64 nk,.string ⟨nn.toArray⟩,.slice av nal.length acap,.string ⟨nda.toArray⟩,.int .i64 np,.int .i64 nf,.int .i64 nl,.int .i64 npv,.int .i64 nx] 62)=w3 at *
 refine(HA.out _ hb3).mono ?_
 rintro e w4 ⟨v',rfl,ho,hb4⟩
 obtain⟨va,vc,rfl⟩:=own_shapeB ho
 have ho0:w4.ownsRow w.heap.size 91 2 (.slice va nal.length vc) nal.length (attrC nal):=own_baseB (own_low ho (Nat.zero_le _)) (fun k hk=>Nat.le_trans hb3.size (ho.lt k hk).1)
 have HO:=Lib.hid ho0
 have kA:=Blk.below k3 hb4
 have kN:=Blk.below kn hb4
 have HB4:=Lib.hid (bthen hb3 hb4)
 have HKA:=Lib.hid kA
 have HKN:=Lib.hid kN
 have c0:=kA.cell 0
 have c1:=kA.cell 1
 have c2:=kA.cell 2
 have c3:=kA.cell 3
 have c4:=kA.cell 4
 have c5:=kA.cell 5
 have c6:=kA.cell 6
 have c7:=kA.cell 7
 have c8:=kA.cell 8
 have cf:=kA.free
 have d0:=kN.cell 0
 have d1:=kN.cell 1
 have d2:=kN.cell 2
 have d3:=kN.cell 3
 have d4:=kN.cell 4
 have d5:=kN.cell 5
 have d6:=kN.cell 6
 have d7:=kN.cell 7
 have d8:=kN.cell 8
 have df:=kN.free
 simp only [zzD,zzE] at c0 c1 c2 c3 c4 c5 c6 c7 c8 d0 d1 d2 d3 d4 d5 d6 d7 d8
 clear hb3 hb4 hb02 k3 kn ho ho0 kA kN
 go_wp2_with fail
 have k5:=HKA.out.setOther ⟨r2,2,none⟩ (fun e=>hne e.symm) (.slice va nal.length vc)
 have k9:=Blk.over ⟨nk,nn,.slice va nal.length vc,nal,nda,np,nf,nl,npv,nx⟩ k5 rfl
 have b9:=Below.over ⟨nk,nn,.slice va nal.length vc,nal,nda,np,nf,nl,npv,nx⟩ (HB4.out.setCell (p:=⟨r2,2,none⟩) (by show w.heap.size≤r2;omega) (.slice va nal.length vc)) (Nat.le_refl w.heap.size)
 refine bodyPost_ret (res_nd (by rfl) (by rfl) k9) rfl ⟨.slice va nal.length vc,rfl,?_,b9⟩
 refine own_kB HO.out (fun k hk=>?_)
 obtain⟨cur,hcur⟩:=own_ty HO.out hk
 have n1:k≠w.heap.size:=fun e=>by subst e;exact blk_ne hcur HKA.out (by decide) rfl
 have n2:k≠r2:=fun e=>by subst e;exact blk_ne hcur HKN.out (by decide) rfl
 have e1:∀(wx:World) (j:Nat) (u:Value),(wx.setCell ⟨w.heap.size,j,none⟩ u).heap[k]? = wx.heap[k]?:=fun wx j u=>Below.heap_setCell _ _ _ _ n1
 have e2:∀(wx:World) (j:Nat) (u:Value),(wx.setCell ⟨r2,j,none⟩ u).heap[k]? = wx.heap[k]?:=fun wx j u=>Below.heap_setCell _ _ _ _ n2
 simp only [e1,e2]
theorem node_some {B R:Nat}{S:Tr}{sv fv:Value}{w:World}(h:TAt B R S sv fv w)(hd:Int)(hh:HOk hd){k:Nat}(hk:S.ix hd=some k){n:Nd}(hn:S.slots[k]? = some (some n))(hl:n.attrs.length≤1000) :
  Calls Tryz.prog 24 #[.pointer (some ⟨R,0,none⟩),.int .i64 hd] w fun e w'=>∃v',e=.returned (.tuple #[.agg (ndC { n with av:=v' }).toArray,.bool true])∧w'.ownsRow w.heap.size 91 2 v' n.attrs.length (attrC n.attrs)∧Below w.heap.size w w':=by
 obtain⟨_,hkl,_⟩:=ix_some hk
 obtain⟨g,cap,rfl⟩:=slots_some h (by omega)
 exact node_x (R:=R) n true hd (fun wx hb=>get_some (h.below hb) hd hh hk hn) (h.attrs k n hn) hl h.blk.free h.blk.lt
theorem node_none {B R:Nat}{S:Tr}{sv fv:Value}{w:World}(h:TAt B R S sv fv w)(hd:Int)(hh:HOk hd)(hk:S.ix hd=none) :
  Calls Tryz.prog 24 #[.pointer (some ⟨R,0,none⟩),.int .i64 hd] w fun e w'=>∃v',e=.returned (.tuple #[.agg (ndC { zeroN with av:=v' }).toArray,.bool false])∧w'.ownsRow w.heap.size 91 2 v' 0 []∧Below w.heap.size w w' :=
 node_x (B:=B) (R:=R) zeroN false hd (fun wx hb=>get_none (h.below hb) hd hh hk) ⟨none,0,rfl,.inl rfl⟩ (by decide) h.blk.free h.blk.lt
def CopiedOut (B R:Nat)(S:Tr)(sv fv:Value)(K:Nat→List Nat)(d:Nat→Nat)(i:Nat)(KJ:Nat→List Nat)(P:List Nat)(w:World)(e:Ending)(w':World):Prop :=
 ∃S' sv' fv' K' d' r,e=.returned (.int .i64 (S.hd (r i)))∧TAt B R S' sv' fv' w'∧CpD S K d S' K' d' i KJ P r∧Chg (fun k=>k=R∨sv.ownBlock=some k) w w'∧(sv'.ownBlock=sv.ownBlock∨∃k,sv'.ownBlock=some k∧w.heap.size≤k)∧fv'.ownBlock=fv.ownBlock∧(∀k,trF R S' sv' fv' k→trF R S sv fv k∨w.heap.size≤k)
def CopiedAt (f:Nat):Prop :=
 ∀(B R:Nat) (S:Tr) (sv fv:Value) (w:World) (K:Nat→List Nat) (d:Nat→Nat),TAt B R S sv fv w→Lk S K d→(∀i∈S.free,S.slots[i]? = some none)→S.free.Nodup →
 ∀(i:Nat) (n:Nd),S.at i=some n→128 - d i=f→(∀x m,S.at x=some m→m.attrs.length≤1000)→S.free.length≤900000→S.slots.length+(wlk K f i).length≤900000 →
  Calls Tryz.prog 70 #[.pointer (some ⟨R,0,none⟩),.int .i64 (S.hd i),.bool true] w (CopiedOut B R S sv fv K d i K (wlk K f i) w)
def CdR (B R:Nat)(S:Tr)(sv fv:Value)(K:Nat→List Nat)(d:Nat→Nat)(f i:Nat)(w:World)(kv:Value)(jv:Value)(wr:World):Prop :=
 ∃(j B2:Nat) (S1:Tr) (sv1 fv1:Value) (K1:Nat→List Nat) (d1:Nat→Nat) (r:Nat→Nat),j≤(K i).length∧jv=.int .i64 (j:Int)∧r i=S.addI∧CpD S K d S1 K1 d1 i (kJ K i j) (pJ K f i j) r∧TAt B R S1 sv1 fv1 wr∧wr.ownsRow B2 3 1 kv (K i).length (hC ((K i).map S.hd)) ∧
  Chg (fun k=>k=R∨sv.ownBlock=some k) w wr∧(sv1.ownBlock=sv.ownBlock∨∃k,sv1.ownBlock=some k∧w.heap.size≤k)∧fv1.ownBlock=fv.ownBlock∧(∀k,kv.ownBlock=some k→w.heap.size≤k∧sv1.ownBlock≠some k)∧(∀k,trF R S1 sv1 fv1 k→trF R S sv fv k∨w.heap.size≤k)
theorem copied_step (f:Nat)(ih:f≠0→CopiedAt (f - 1)):CopiedAt f:=by
 intro B R S sv fv w K d h hL hfr hfn i n hi hf hal hfl hcap
 obtain⟨g,cap,rfl⟩:=slots_some h (by have:=at_lt hi;omega)
 have hsi:(S.at i).isSome=true:=by rw [hi];rfl
 have HT:=Lib.hid h
 have HL:=Lib.hid hL
 have hlow:=hL.low i
 have hpos:=hL.pos i hsi
 have hkl:=kids_len hL i
 -- the walk as it grows
 have HW:=Lib.hid (show wlk K f i=pJ K (f - 1) i (K i).length from by
  cases f with
  | zero =>
   have hK:K i=[]:=by
    cases e:K i with
    | nil=>rfl
    | cons k t =>
     have h1:=hL.dep i k (by rw [e];simp)
     have h2:=hL.low k
     omega
   unfold pJ;rw [hK];rfl
  | succ f=>exact(pJ_full K f i).symm)
 have HN:=Lib.hid (node_some h (S.hd i) (hd_ok hL hi).1 (hd_ix hL hi) (at_slot hi) (hal i n hi))
 have HK:=Lib.hid (fun wx (hb:Below w.heap.size w wx)=>kids_any (h.below hb) hL i n hi)
 obtain⟨nk,nn,nav,nal,nda,np,nf,nl,npv,nx⟩:=n
 have HAd:=Lib.hid (fun wx (hb:Below w.heap.size w wx) (v:Value) (hv:AttrAt B wx v nal)=>add_any (h.below hb) hfr (by omega) (by have:=wlk_pos K f i;omega) ⟨nk,nn,v,nal,nda,0,0,0,0,0⟩ hv)
 have HSt:=Lib.hid (fun(v:Value) (r:Nat→Nat) (hr:r i=S.addI)=>cps_start (n0:=⟨nk,nn,v,nal,nda,0,0,0,0,0⟩) hL hfr hfn (by have:=wlk_pos K f i;omega) hi rfl rfl rfl rfl rfl rfl rfl rfl rfl (KJ:=kJ K i 0) (by unfold kJ;simp) (r:=r) hr)
 have hBR:=h.base
 have hRl:=h.blk.lt
 have hgl:=(h.slots.lt g rfl).2
 have hzR:=h.blk.free
 have HAl:=Lib.hid hal
 have HFr:=Lib.hid hfr
 have HI:=Lib.hid hi
 clear h hL hi hfr hal
 go_enter Tryz.func70,Tryz.ntmps70
 go_wp2_with fail
 refine HN.out.mono ?_
 rintro e w1 ⟨v',rfl,ho1,hb1⟩
 obtain⟨va,vc,rfl⟩:=own_shapeB ho1
 have hx1:=Blk.new w1 (ndC ⟨nk,nn,.slice va nal.length vc,nal,nda,np,nf,nl,npv,nx⟩) 62
 have hb1':=hb1.alloc hb1.size (.cells (ndC ⟨nk,nn,.slice va nal.length vc,nal,nda,np,nf,nl,npv,nx⟩).toArray 62)
 have HO1:=Lib.hid (own_keepB ho1 ((Below.refl w1.heap.size w1).alloc (Nat.le_refl _) (.cells (ndC ⟨nk,nn,.slice va nal.length vc,nal,nda,np,nf,nl,npv,nx⟩).toArray 62)))
 clear ho1
 simp only [ndC,strV] at hx1 hb1' HO1 ⊢
 go_wp2_with fail
 generalize hr1:w1.heap.size=r1 at *
 generalize w1.alloc _=w2 at *
 refine(HK.out _ hb1').mono ?_
 rintro e w3 ⟨kv,rfl,hok,hb3⟩
 obtain⟨ka,kc,rfl⟩:=own_shapeB hok
 have HKv:=Lib.hid hok
 have hs2:=hb1'.size
 have HB3:=Lib.hid (bthen hb1' hb3)
 have HX3:=Lib.hid (Blk.below hx1 hb3)
 have HO3:=Lib.hid (own_keepB HO1.out hb3)
 clear hx1 hb1 hb1' hb3 hok HO1 HN HK
 go_upto_region 3 with fail
 have hne:=stb_ne w3
 have hgl3:=HX3.out.lt
 have xs:=fun(x:InS (StB w3))=>HX3.out.below x.h
 have z0:=fun x=>(xs x).cell 0
 have z1:=fun x=>(xs x).cell 1
 have z2:=fun x=>(xs x).cell 2
 have z3:=fun x=>(xs x).cell 3
 simp only [zzD,zzE] at z0 z1 z2 z3
 clear xs
 refine reg_b (fun _=>undef) 12 (by kernel_rfl) (by kernel_rfl) ?_
 simp only [zzF,zzG,zzH,zzI]
 repeat (first
  | (refine m_held (by rfl) (by rfl) (fun K hK=>?_);go_big_quiet_step (fail);refine wpQuiet_nil ?_;refine hK.out _ ?_;clear hK K)
  | (refine m_skip (by rfl) ?_;simp only [Act.put,zzA,zzB,zzC]))
 refine m_nil ?_
 intro w4 h4
 clear z0 z1 z2 z3 hne
 have HB4:=Lib.hid (bthen HB3.out h4)
 have HO4:=Lib.hid (own_keepB HO3.out h4)
 have HK4:=Lib.hid (own_keepB HKv.out h4)
 have HKl:=Lib.hid (fun k (hk:(Value.slice ka (K i).length kc).ownBlock=some k)=>(show w.heap.size≤k∧k < w4.heap.size from⟨by have:=(HKv.out.lt k hk).1;omega,(HK4.out.lt k hk).2⟩))
 have HAw:=Lib.hid (HAd.out _ HB4.out (.slice va nal.length vc) (attr_of_own HO4.out (by omega)))
 clear h4 HAd HO3 HX3 HB3 HKv
 go_wp2_with fail
 refine HAw.out.mono ?_
 rintro e w5 ⟨sv5,fv5,rfl,hT5,hC5,hsv5,hfv5⟩
 have hw4:=HB4.out.size
 have hfvl:∀k,fv.ownBlock=some k→k < w.heap.size:=fun k hk=>(HT.out.free.lt k hk).2
 have HSv5:=Lib.hid (show sv5.ownBlock=(Value.slice (some ⟨g,0,none⟩) S.slots.length cap).ownBlock∨∃k,sv5.ownBlock=some k∧w.heap.size≤k from by
  rcases hsv5 with e | ⟨k,e,hk⟩
  ·exact .inl e
  ·exact .inr ⟨k,e,by omega⟩)
 have HK5:=Lib.hid (own_kB HK4.out (fun k hk=>hC5.block k (HKl.out k hk).2 (fun e=>by
  have:=(HKl.out k hk).1
  rcases e with e | e
  ·omega
  ·have e:g=k:=by simpa [Value.ownBlock] using e
   omega)))
 have HKn:=Lib.hid (fun k (hk:(Value.slice ka (K i).length kc).ownBlock=some k)=>(show w.heap.size≤k∧sv5.ownBlock≠some k from⟨(HKl.out k hk).1,fun e=>by
  rcases hsv5 with e2 | ⟨q,e2,hq⟩
  ·rw [e2] at e
   have e:g=k:=by simpa [Value.ownBlock] using e
   have:=(HKl.out k hk).1;omega
  ·rw [e2] at e;cases e;have:=(HKl.out _ hk).2;omega⟩))
 have HF5:=Lib.hid (show ∀k,trF R (S.add ⟨nk,nn,.slice va nal.length vc,nal,nda,0,0,0,0,0⟩) sv5 fv5 k→trF R S (.slice (some ⟨g,0,none⟩) S.slots.length cap) fv k∨w.heap.size≤k from fun k hk=>by
  rcases hk with rfl | hk | hk | ⟨x,m,hx,hne,hk⟩
  ·exact .inl (.inl rfl)
  ·rcases HSv5.out with e | ⟨q,e,hq⟩
   ·exact .inl (.inr (.inl (by rw [← e];exact hk)))
   ·rw [e] at hk;cases hk;exact .inr hq
  ·exact .inl (.inr (.inr (.inl (by rw [← hfv5];exact hk))))
  ·rw [(added_of HFr.out hfn _).at_] at hx
   by_cases e:x=S.addI
   ·rw [if_pos e] at hx;cases hx
    exact .inr (HO4.out.lt k hk).1
   ·rw [if_neg e] at hx
    exact .inl (.inr (.inr (.inr ⟨x,m,hx,hne,hk⟩))))
 have HC5:=Lib.hid ((Chg.of_below (F:=fun k=>k=R∨(Value.slice (some ⟨g,0,none⟩) S.slots.length cap).ownBlock=some k) HB4.out).trans hC5 (fun _ _ h=>h))
 have HT5:=Lib.hid hT5
 have HV5:=Lib.hid hfv5
 have HS5:=Lib.hid (HSt.out (.slice va nal.length vc) (fun _=>S.addI) rfl)
 clear hT5 hC5 hsv5 hfv5 HAw HSt HO4 HK4
 go_wp2_with fail
 go_loopw [38] (fun jv wr=>CdR B R S (.slice (some ⟨g,0,none⟩) S.slots.length cap) fv K d (f - 1) i w (.slice ka (K i).length kc) jv wr) (fun jv _=>(K i).length - intN jv)
 case atStart=>exact⟨0,_,_,sv5,fv5,K,_,_,Nat.zero_le _,rfl,rfl,by rw [pJ_zero];exact HS5.out,HT5.out,HK5.out,HC5.out,HSv5.out,HV5.out,HKn.out,HF5.out⟩
 case round =>
  obtain⟨j,B2,S1,sv1,fv1,K1,d1,r,hj,rfl,hri,hcp,hT1,hok,hC1,hsv1,hfv1,hkn,hF1⟩:=hrel
  by_cases hlt:j < (K i).length
  ·obtain⟨q,hq⟩:∃q,(K i)[j]? = some q:=⟨_,List.getElem?_eq_getElem hlt⟩
   have hqm:=List.mem_of_getElem? hq
   obtain⟨nq,hnq⟩:=HL.out.some hq
   have hdq:=HL.out.dep i q hqm
   have hlq:=HL.out.low q
   obtain⟨gv,cp2,hv,hcell⟩:=own_int hok (x:=S.hd q) (by rw [List.getElem?_map,hq];rfl)
   cases hv
   have hqs:(S.at q).isSome=true:=by rw [hnq];rfl
   obtain⟨o1,o2,o3⟩:=hcp.old q hqs
   have hPl:=pJ_le K (f - 1) i (j+1)
   rw [pJ_succ hq,List.length_append,← HW.out] at hPl
   have hw1:wlk K1 (f - 1) q=wlk K (f - 1) q:=wlk_same (f - 1) q (fun x hx=>(hcp.old x (wlk_sub HL.out (f - 1) q x hqs hx).2).2.1)
   have hfl1:=hcp.fl
   have hnl:=nxN_len (pJ K (f - 1) i j).length S.fl
   rw [← hfl1] at hnl
   have hs1:S1.slots.length≤S.slots.length+(pJ K (f - 1) i j).length:=hnl.2.1
   have hs2:S1.free.length≤S.free.length:=hnl.2.2
   have hal1:∀x m,S1.at x=some m→m.attrs.length≤1000:=fun x m hx=>by
    by_cases e:(S.at x).isSome=true
    ·rw [(hcp.old x e).1] at hx;exact HAl.out x m hx
    ·rcases hcp.cov x (by rw [hx];rfl) with h | ⟨y,hy,rfl⟩
     ·exact absurd h e
     ·obtain⟨_,n1,n2,a1,a2,_,_,a3,_⟩:=hcp.new y hy
      rw [hx] at a2;cases a2
      rw [a3];exact HAl.out y n1 a1
   have hIH:=ih (by omega) B R S1 sv1 fv1 wr K1 d1 hT1 hcp.lk hcp.fr hcp.frnd q nq (by rw [o1];exact hnq) (by rw [o3];omega) hal1 (by omega) (by rw [hw1];omega)
   rw [hcp.hd] at hIH
   have HIH:=Lib.hid hIH
   have HCp:=Lib.hid hcp
   have HO:=Lib.hid hok
   have HC:=Lib.hid hC1
   have HF:=Lib.hid hF1
   have HSv:=Lib.hid hsv1
   have HFv:=Lib.hid hfv1
   have HKn1:=Lib.hid hkn
   have Hq:=Lib.hid hq
   have Hr:=Lib.hid hri
   have hRw:=hT1.blk.lt
   have hRz:=hT1.blk.free
   clear hIH hcp hT1 hok hC1 hF1 hsv1 hfv1 hkn o1 o2 o3 hal1 hq hnq hqm hqs hw1 hfl1 hnl hs1 hs2 hri
   go_wp2_with fail
   refine HIH.out.mono ?_
   rintro e w6 ⟨S2,sv2,fv2,K2,d2,r2,rfl,hT2,hcp2,hC2,hsv2,hfv2,hF2⟩
   obtain⟨d3,r3,hr3,hcp3⟩:=cps_next HL.out hsi (by omega) Hq.out HCp.out hcp2
   have hi2:i∈pJ K (f - 1) i j:=by simp [pJ]
   obtain⟨_,_,ni,_,hni,_⟩:=HCp.out.new i hi2
   have hni1:(S1.at (r i)).isSome=true:=by rw [hni];rfl
   obtain⟨np,hnp⟩:∃np,S2.at (r i)=some np:=⟨ni,by rw [(hcp2.old _ hni1).1];exact hni⟩
   have hq2:q∈wlk K1 (f - 1) q:=by cases (f - 1) <;> simp [wlk]
   obtain⟨hno,_,nc,_,hnc,_⟩:=hcp2.new q hq2
   have hpc:r i≠r2 q:=fun e=>by rw [e] at hni;rw [hno] at hni;cases hni
   obtain⟨g2,cap2,rfl⟩:=slots_some hT2 (by have:=at_lt hnp;omega)
   rw [Hr.out] at hcp3 hr3 hnp hpc
   have hLk:=link_end hT2 hcp2.lk S.addI (r2 q) np nc hnp hnc hpc hcp2.top (fun S3 hl=>(hcp3 S3 hl).lk)
   rw [hcp2.hd,hcp2.hd,HCp.out.hd,HCp.out.hd] at hLk
   have HLk:=Lib.hid hLk
   have HO2:=Lib.hid (own_kB HO.out (fun k hk=>hC2.block k (HO.out.lt k hk).2 (fun e=>by
    rcases e with e | e
    ·have:=(HKn1.out k hk).1;omega
    ·exact(HKn1.out k hk).2 e)))
   have HCp3:=Lib.hid hcp3
   have HC2:=Lib.hid hC2
   have HF2:=Lib.hid hF2
   have HSv2:=Lib.hid hsv2
   have HFv2:=Lib.hid hfv2
   have HR3:=Lib.hid hr3
   have hww:=HC.out.size
   have hKl2:∀k,(Value.slice (some ⟨gv,0,none⟩) (K i).length kc).ownBlock=some k→k < wr.heap.size:=fun k hk=>(HO.out.lt k hk).2
   have HG2:=Lib.hid (fun k (hk:(Value.slice (some ⟨gv,0,none⟩) (K i).length kc).ownBlock=some k)=>(show k≠g2 from fun e=>by
    rcases HSv2.out with e2 | ⟨z,e2,hz⟩
    ·exact(HKn1.out k hk).2 (by rw [← e2,e];rfl)
    ·have e2:g2=z:=by simpa [Value.ownBlock] using e2
     have:=hKl2 k hk;omega))
   rw [HCp.out.hd]
   clear hLk hT2 hcp2 hcp3 hC2 hF2 hsv2 hfv2 hr3 hno hnc hnp hni hpc
   go_wp2_with fail
   refine HLk.out.mono ?_
   rintro e w7 ⟨S3,hl3,rfl,hT3,hC3⟩
   have HS:=Lib.hid (show CdR B R S (.slice (some ⟨g,0,none⟩) S.slots.length cap) fv K d (f - 1) i w (.slice (some ⟨gv,0,none⟩) (K i).length kc) (.int .i64 ((j+1:Nat):Int)) w7 from by
    refine⟨j+1,B2,S3,.slice (some ⟨g2,0,none⟩) S3.slots.length cap2,fv2,_,d3,r3,by omega,rfl,HR3.out,HCp3.out S3 hl3,hT3,own_kB HO2.out (fun k hk=>hC3.block k (HO2.out.lt k hk).2 (HG2.out k hk)),?_,?_,HFv2.out.trans HFv.out,fun k hk=>⟨(HKn1.out k hk).1,fun e=>HG2.out k hk (by cases e;rfl)⟩,fun k hk=>?_⟩
    ·refine(HC.out.trans HC2.out (fun k hk e=>?_)).trans hC3 (fun k hk e=>?_)
     ·rcases e with e | e
      ·exact .inl e
      ·rcases HSv.out with e2 | ⟨z,e2,hz⟩
       ·exact .inr (by rw [← e2];exact e)
       ·rw [e2] at e;cases e;omega
     ·rcases HSv2.out with e2 | ⟨z,e2,hz⟩
      ·rcases HSv.out with e3 | ⟨z,e3,hz⟩
       ·exact .inr (by rw [← e3,← e2,e];rfl)
       ·rw [← e2] at e3
        have e3:g2=z:=by simpa [Value.ownBlock] using e3
        omega
      ·have e2:g2=z:=by simpa [Value.ownBlock] using e2
       omega
    ·rcases HSv2.out with e2 | ⟨z,e2,hz⟩
     ·rcases HSv.out with e3 | ⟨z,e3,hz⟩
      ·exact .inl (e2.trans e3)
      ·exact .inr ⟨z,e2.trans e3,hz⟩
     ·exact .inr ⟨z,e2,by omega⟩
    ·rcases HF2.out k (trF_map (sv:=.slice (some ⟨g2,0,none⟩) S2.slots.length cap2) _ (keeps_link _ _ _ _ _) hl3.at_ k hk) with h | h
     ·exact HF.out k h
     ·exact .inr (by omega))
   clear hl3 hT3 hC3
   go_wp2_with fail
   exact⟨HS.out,by simp only [intN];omega⟩
  ·obtain rfl:j=(K i).length:=by omega
   have HCp:=Lib.hid hcp
   have HT1:=Lib.hid hT1
   have HC:=Lib.hid hC1
   have HF:=Lib.hid hF1
   clear hcp hT1 hok hC1 hF1 hkn
   go_wp2_with fail
   go_ret
   refine⟨S1,sv1,fv1,K1,d1,r,by rw [hri];rfl,HT1.out,?_,HC.out,hsv1,hfv1,HF.out⟩
   rw [HW.out]
   exact kJ_all HCp.out
theorem copied_flat {B R:Nat}{S:Tr}{sv fv:Value}{w:World}{K:Nat→List Nat}{d:Nat→Nat}(h:TAt B R S sv fv w)(hL:Lk S K d)(hfr:∀i∈S.free,S.slots[i]? = some none)(hfn:S.free.Nodup)
  (i:Nat)(n:Nd)(hi:S.at i=some n)(hal:n.attrs.length≤1000)(hfl:S.free.length≤900000)(hcap:S.slots.length+1≤900000) :
  Calls Tryz.prog 70 #[.pointer (some ⟨R,0,none⟩),.int .i64 (S.hd i),.bool false] w (CopiedOut B R S sv fv K d i (kJ K i 0) [i] w):=by
 obtain⟨g,cap,rfl⟩:=slots_some h (by have:=at_lt hi;omega)
 have hsi:(S.at i).isSome=true:=by rw [hi];rfl
 have HT:=Lib.hid h
 have HL:=Lib.hid hL
 have hlow:=hL.low i
 have hpos:=hL.pos i hsi
 have hkl:=kids_len hL i
 have HN:=Lib.hid (node_some h (S.hd i) (hd_ok hL hi).1 (hd_ix hL hi) (at_slot hi) hal)
 have HK:=Lib.hid (fun wx (hb:Below w.heap.size w wx)=>kids_any (h.below hb) hL i n hi)
 obtain⟨nk,nn,nav,nal,nda,np,nf,nl,npv,nx⟩:=n
 have HAd:=Lib.hid (fun wx (hb:Below w.heap.size w wx) (v:Value) (hv:AttrAt B wx v nal)=>add_any (h.below hb) hfr (by omega) (by omega) ⟨nk,nn,v,nal,nda,0,0,0,0,0⟩ hv)
 have HSt:=Lib.hid (fun(v:Value) (r:Nat→Nat) (hr:r i=S.addI)=>cps_start (n0:=⟨nk,nn,v,nal,nda,0,0,0,0,0⟩) hL hfr hfn (by omega) hi rfl rfl rfl rfl rfl rfl rfl rfl rfl (KJ:=kJ K i 0) (by unfold kJ;simp) (r:=r) hr)
 have hBR:=h.base
 have hRl:=h.blk.lt
 have hgl:=(h.slots.lt g rfl).2
 have hzR:=h.blk.free
 have HFr:=Lib.hid hfr
 have HI:=Lib.hid hi
 clear h hL hi hfr
 go_enter Tryz.func70,Tryz.ntmps70
 go_wp2_with fail
 refine HN.out.mono ?_
 rintro e w1 ⟨v',rfl,ho1,hb1⟩
 obtain⟨va,vc,rfl⟩:=own_shapeB ho1
 have hx1:=Blk.new w1 (ndC ⟨nk,nn,.slice va nal.length vc,nal,nda,np,nf,nl,npv,nx⟩) 62
 have hb1':=hb1.alloc hb1.size (.cells (ndC ⟨nk,nn,.slice va nal.length vc,nal,nda,np,nf,nl,npv,nx⟩).toArray 62)
 have HO1:=Lib.hid (own_keepB ho1 ((Below.refl w1.heap.size w1).alloc (Nat.le_refl _) (.cells (ndC ⟨nk,nn,.slice va nal.length vc,nal,nda,np,nf,nl,npv,nx⟩).toArray 62)))
 clear ho1
 simp only [ndC,strV] at hx1 hb1' HO1 ⊢
 go_wp2_with fail
 generalize hr1:w1.heap.size=r1 at *
 generalize w1.alloc _=w2 at *
 refine(HK.out _ hb1').mono ?_
 rintro e w3 ⟨kv,rfl,hok,hb3⟩
 obtain⟨ka,kc,rfl⟩:=own_shapeB hok
 have HKv:=Lib.hid hok
 have hs2:=hb1'.size
 have HB3:=Lib.hid (bthen hb1' hb3)
 have HX3:=Lib.hid (Blk.below hx1 hb3)
 have HO3:=Lib.hid (own_keepB HO1.out hb3)
 clear hx1 hb1 hb1' hb3 hok HO1 HN HK
 go_upto_region 3 with fail
 have hne:=stb_ne w3
 have hgl3:=HX3.out.lt
 have xs:=fun(x:InS (StB w3))=>HX3.out.below x.h
 have z0:=fun x=>(xs x).cell 0
 have z1:=fun x=>(xs x).cell 1
 have z2:=fun x=>(xs x).cell 2
 have z3:=fun x=>(xs x).cell 3
 simp only [zzD,zzE] at z0 z1 z2 z3
 clear xs
 refine reg_b (fun _=>undef) 12 (by kernel_rfl) (by kernel_rfl) ?_
 simp only [zzF,zzG,zzH,zzI]
 repeat (first
  | (refine m_held (by rfl) (by rfl) (fun K hK=>?_);go_big_quiet_step (fail);refine wpQuiet_nil ?_;refine hK.out _ ?_;clear hK K)
  | (refine m_skip (by rfl) ?_;simp only [Act.put,zzA,zzB,zzC]))
 refine m_nil ?_
 intro w4 h4
 clear z0 z1 z2 z3 hne
 have HB4:=Lib.hid (bthen HB3.out h4)
 have HO4:=Lib.hid (own_keepB HO3.out h4)
 have HK4:=Lib.hid (own_keepB HKv.out h4)
 have HKl:=Lib.hid (fun k (hk:(Value.slice ka (K i).length kc).ownBlock=some k)=>(show w.heap.size≤k∧k < w4.heap.size from⟨by have:=(HKv.out.lt k hk).1;omega,(HK4.out.lt k hk).2⟩))
 have HAw:=Lib.hid (HAd.out _ HB4.out (.slice va nal.length vc) (attr_of_own HO4.out (by omega)))
 clear h4 HAd HO3 HX3 HB3 HKv
 go_wp2_with fail
 refine HAw.out.mono ?_
 rintro e w5 ⟨sv5,fv5,rfl,hT5,hC5,hsv5,hfv5⟩
 have hw4:=HB4.out.size
 have hfvl:∀k,fv.ownBlock=some k→k < w.heap.size:=fun k hk=>(HT.out.free.lt k hk).2
 have HSv5:=Lib.hid (show sv5.ownBlock=(Value.slice (some ⟨g,0,none⟩) S.slots.length cap).ownBlock∨∃k,sv5.ownBlock=some k∧w.heap.size≤k from by
  rcases hsv5 with e | ⟨k,e,hk⟩
  ·exact .inl e
  ·exact .inr ⟨k,e,by omega⟩)
 have HK5:=Lib.hid (own_kB HK4.out (fun k hk=>hC5.block k (HKl.out k hk).2 (fun e=>by
  have:=(HKl.out k hk).1
  rcases e with e | e
  ·omega
  ·have e:g=k:=by simpa [Value.ownBlock] using e
   omega)))
 have HKn:=Lib.hid (fun k (hk:(Value.slice ka (K i).length kc).ownBlock=some k)=>(show w.heap.size≤k∧sv5.ownBlock≠some k from⟨(HKl.out k hk).1,fun e=>by
  rcases hsv5 with e2 | ⟨q,e2,hq⟩
  ·rw [e2] at e
   have e:g=k:=by simpa [Value.ownBlock] using e
   have:=(HKl.out k hk).1;omega
  ·rw [e2] at e;cases e;have:=(HKl.out _ hk).2;omega⟩))
 have HF5:=Lib.hid (show ∀k,trF R (S.add ⟨nk,nn,.slice va nal.length vc,nal,nda,0,0,0,0,0⟩) sv5 fv5 k→trF R S (.slice (some ⟨g,0,none⟩) S.slots.length cap) fv k∨w.heap.size≤k from fun k hk=>by
  rcases hk with rfl | hk | hk | ⟨x,m,hx,hne,hk⟩
  ·exact .inl (.inl rfl)
  ·rcases HSv5.out with e | ⟨q,e,hq⟩
   ·exact .inl (.inr (.inl (by rw [← e];exact hk)))
   ·rw [e] at hk;cases hk;exact .inr hq
  ·exact .inl (.inr (.inr (.inl (by rw [← hfv5];exact hk))))
  ·rw [(added_of HFr.out hfn _).at_] at hx
   by_cases e:x=S.addI
   ·rw [if_pos e] at hx;cases hx
    exact .inr (HO4.out.lt k hk).1
   ·rw [if_neg e] at hx
    exact .inl (.inr (.inr (.inr ⟨x,m,hx,hne,hk⟩))))
 have HC5:=Lib.hid ((Chg.of_below (F:=fun k=>k=R∨(Value.slice (some ⟨g,0,none⟩) S.slots.length cap).ownBlock=some k) HB4.out).trans hC5 (fun _ _ h=>h))
 have HT5:=Lib.hid hT5
 have HV5:=Lib.hid hfv5
 have HS5:=Lib.hid (HSt.out (.slice va nal.length vc) (fun _=>S.addI) rfl)
 clear hT5 hC5 hsv5 hfv5 HAw HSt HO4 HK4
 go_wp2_with fail
 go_ret
 exact⟨_,sv5,fv5,K,_,_,rfl,HT5.out,HS5.out,HC5.out,HSv5.out,HV5.out,HF5.out⟩
theorem copied_any:∀f,CopiedAt f
 | 0=>copied_step 0 (fun h=>absurd rfl h)
 | f+1=>copied_step (f+1) (fun _=>copied_any f)
theorem collectW {B R g cap:Nat}{S:Tr}{fv:Value}{w:World}{K d}(h:TAt B R S (.slice (some ⟨g,0,none⟩) S.slots.length cap) fv w)(hL:Lk S K d)(i:Nat)(n:Nd)(hi:S.at i=some n)(wa:World)(hb:Below w.heap.size w wa) :
  Calls Tryz.prog 68 #[.func (.func 73) #[] #[.pointer (some ⟨wa.heap.size,0,none⟩),.pointer (some ⟨wa.heap.size+1,0,none⟩)]] ((wa.alloc (.cells #[.pointer (some ⟨R,0,none⟩)] 29)).alloc (.cells #[.int .i64 (S.hd i)] 3)) fun e w'=>∃v,e=.returned v∧w'.ownsRow ((wa.alloc (.cells #[.pointer (some ⟨R,0,none⟩)] 29)).alloc (.cells #[.int .i64 (S.hd i)] 3)).heap.size 3 1 v (wlk K (128 - d i) i).length (hC ((wlk K (128 - d i) i).map S.hd))∧Below ((wa.alloc (.cells #[.pointer (some ⟨R,0,none⟩)] 29)).alloc (.cells #[.int .i64 (S.hd i)] 3)).heap.size ((wa.alloc (.cells #[.pointer (some ⟨R,0,none⟩)] 29)).alloc (.cells #[.int .i64 (S.hd i)] 3)) w':=by
 have hfew:=h.few
 have hlf:=hL.few
 have hsi:(S.at i).isSome=true:=by rw [hi];rfl
 have HLN:=wlk_len hL (128 - d i) i hsi
 have k1:=Blk.new wa [.pointer (some ⟨R,0,none⟩)] 29
 have k2:=Blk.new (wa.alloc (.cells #[.pointer (some ⟨R,0,none⟩)] 29)) [.int .i64 (S.hd i)] 3
 have hs1:(wa.alloc (.cells #[.pointer (some ⟨R,0,none⟩)] 29)).heap.size=wa.heap.size+1:=by simp
 rw [hs1] at k2
 have hbb:Below wa.heap.size wa ((wa.alloc (.cells #[.pointer (some ⟨R,0,none⟩)] 29)).alloc (.cells #[.int .i64 (S.hd i)] 3)):=((Below.refl _ _).alloc (Nat.le_refl _) _).alloc (by simp) _
 have k1':=k1.alloc (.cells #[.int .i64 (S.hd i)] 3)
 have hs2:((wa.alloc (.cells #[.pointer (some ⟨R,0,none⟩)] 29)).alloc (.cells #[.int .i64 (S.hd i)] 3)).heap.size=wa.heap.size+2:=by simp
 have k1':Blk ((wa.alloc (.cells #[.pointer (some ⟨R,0,none⟩)] 29)).alloc (.cells #[.int .i64 (S.hd i)] 3)) wa.heap.size [.pointer (some ⟨R,0,none⟩)] 29:=k1'
 have k2:Blk ((wa.alloc (.cells #[.pointer (some ⟨R,0,none⟩)] 29)).alloc (.cells #[.int .i64 (S.hd i)] 3)) (wa.heap.size+1) [.int .i64 (S.hd i)] 3:=k2
 generalize (wa.alloc (.cells #[.pointer (some ⟨R,0,none⟩)] 29)).alloc (.cells #[.int .i64 (S.hd i)] 3)=w2 at *
 refine collect_any (enters_of Tryz.func73 (by kernel_rfl) rfl) (by omega) (fun m=>walk1_some (h.below hb) hL n hi ⟨?_,?_,?_,?_⟩ (k1'.alloc _) (k2.alloc _))
 ·simp;omega
 ·intro k cs t fr hk
  have hkl:=(Array.getElem?_eq_some_iff.1 hk).1
  exact(((Below.refl w2.heap.size w2).alloc (Nat.le_refl _) _).block k (by omega)).trans ((hbb.block k hkl).trans hk)
 ·intro k hk
  have kb:=(Blk.new w2 [.slice none 0 0] 31).cell 0
  simp only [List.getElem?_cons_zero] at kb
  unfold slB at hk
  rw [kb] at hk
  cases hk
 ·simp;omega
theorem tcopy_none {B R:Nat}{S:Tr}{sv fv:Value}{w:World}(h:TAt B R S sv fv w)(hd:Int)(hh:HOk hd)(hk:S.ix hd=none)(deep:Bool) :
  Calls Tryz.prog 23 #[.pointer (some ⟨R,0,none⟩),.int .i64 hd,.bool deep] w fun e w'=>e=.returned (.tuple #[.int .i64 0,.int .i64 6])∧Below w.heap.size w w':=by
 have HA:=Lib.hid (at_none h hd hh hk)
 clear h hk
 go_enter Tryz.func23,Tryz.ntmps23
 go_wp2_with fail
 refine HA.out.mono ?_
 rintro e w2 ⟨rfl,hb⟩
 go_wp2_with fail
 go_ret2
 exact⟨rfl,hb⟩
theorem tcopy_doc {B R:Nat}{S:Tr}{sv fv:Value}{w:World}{K d}(h:TAt B R S sv fv w)(hL:Lk S K d)(i:Nat)(n:Nd)(hi:S.at i=some n)(hk:n.kind=1)(deep:Bool) :
  Calls Tryz.prog 23 #[.pointer (some ⟨R,0,none⟩),.int .i64 (S.hd i),.bool deep] w fun e w'=>e=.returned (.tuple #[.int .i64 0,.int .i64 10])∧Below w.heap.size w w':=by
 obtain⟨g,cap,rfl⟩:=slots_some h (by have:=at_lt hi;omega)
 have HA:=Lib.hid (at_some h (S.hd i) (hd_ok hL hi).1 (hd_ix hL hi))
 have HS:=Lib.hid (fun wx (hb:Below w.heap.size w wx)=>(show wx.cell? ⟨g,i*10+1,none⟩=some (.int .i64 n.kind) from slot_cell (h.below hb) (at_slot hi) 1 (by omega)))
 clear h hi
 go_enter Tryz.func23,Tryz.ntmps23
 go_wp2_with fail
 refine HA.out.mono ?_
 rintro e w2 ⟨rfl,hb⟩
 have c1:=HS.out w2 hb
 rw [hk] at c1
 unfold na
 clear hk
 go_wp2_with fail
 go_ret2
 exact⟨rfl,hb⟩
theorem tcopy_flat {B R:Nat}{S:Tr}{sv fv:Value}{w:World}{K d}(h:TAt B R S sv fv w)(hL:Lk S K d)(hfr:∀i∈S.free,S.slots[i]? = some none)(hfn:S.free.Nodup)(i:Nat)(n:Nd)(hi:S.at i=some n)(hk:n.kind≠1)
  (hal:n.attrs.length≤1000)(hfl:S.free.length≤9000)(hcap:S.slots.length+1≤9000) :
  Calls Tryz.prog 23 #[.pointer (some ⟨R,0,none⟩),.int .i64 (S.hd i),.bool false] w fun e w'=>∃h',e=.returned (.tuple #[.int .i64 h',.int .i64 0])∧CopiedOut B R S sv fv K d i (kJ K i 0) [i] w (.returned (.int .i64 h')) w':=by
 obtain⟨g,cap,rfl⟩:=slots_some h (by have:=at_lt hi;omega)
 have HA:=Lib.hid (at_some h (S.hd i) (hd_ok hL hi).1 (hd_ix hL hi))
 have HS:=Lib.hid (fun wx (hb:Below w.heap.size w wx)=>(show wx.cell? ⟨g,i*10+1,none⟩=some (.int .i64 n.kind) from slot_cell (h.below hb) (at_slot hi) 1 (by omega)))
 have HL:=Lib.hid (fun wx (hb:Below w.heap.size w wx)=>len_any (h.below hb))
 have HC:=Lib.hid (fun wx (hb:Below w.heap.size w wx)=>copied_flat (h.below hb) hL hfr hfn i n hi hal (by omega) (by omega))
 have hlv:S.live≤S.slots.length:=List.length_filter_le _ _
 have hRl:=h.blk.lt
 have hzR:=h.blk.free
 clear h hi
 go_enter Tryz.func23,Tryz.ntmps23
 go_wp2_with fail
 refine HA.out.mono ?_
 rintro e w2 ⟨rfl,hb⟩
 have c1:=HS.out w2 hb
 have HL2:=Lib.hid (HL.out w2 hb)
 have HC2:=Lib.hid (HC.out w2 hb)
 have HB:=Lib.hid hb
 have hd1:decide (n.kind=1)=false:=by simp;exact hk
 have hd2:decide ((20000:Int) < (S.live:Int)+1)=false:=by simp;omega
 unfold na
 clear hb HL HC HS
 go_wp2_with fail
 refine HL2.out.mono ?_
 rintro e w3 ⟨rfl,hw⟩
 rw [hw]
 clear hw
 go_wp2_with fail
 refine HC2.out.mono ?_
 rintro e w4 ⟨S',sv',fv',K',d',r,rfl,hT,hcp,hc,hsv,hfv,hF⟩
 have HO:=Lib.hid (show CopiedOut B R S (.slice (some ⟨g,0,none⟩) S.slots.length cap) fv K d i (kJ K i 0) [i] w (.returned (.int .i64 (S.hd (r i)))) w4 from
  ⟨S',sv',fv',K',d',r,rfl,hT,hcp,(Chg.of_below HB.out).trans hc (fun _ _ h=>h),hsv.imp id (fun⟨k,e,hk⟩=>⟨k,e,Nat.le_trans HB.out.size hk⟩),hfv,fun k hk=>(hF k hk).imp id (fun h=>Nat.le_trans HB.out.size h)⟩)
 clear hT hcp hc hsv hfv hF
 go_wp2_with fail
 go_ret2
 exact⟨_,rfl,HO.out⟩
theorem tcopy_deep {B R:Nat}{S:Tr}{sv fv:Value}{w:World}{K d}(h:TAt B R S sv fv w)(hL:Lk S K d)(hfr:∀i∈S.free,S.slots[i]? = some none)(hfn:S.free.Nodup)(i:Nat)(n:Nd)(hi:S.at i=some n)(hk:n.kind≠1)
  (hal:∀x m,S.at x=some m→m.attrs.length≤1000)(hfl:S.free.length≤9000)(hcap:S.slots.length+(wlk K (128 - d i) i).length≤9000) :
  Calls Tryz.prog 23 #[.pointer (some ⟨R,0,none⟩),.int .i64 (S.hd i),.bool true] w fun e w'=>∃h',e=.returned (.tuple #[.int .i64 h',.int .i64 0])∧CopiedOut B R S sv fv K d i K (wlk K (128 - d i) i) w (.returned (.int .i64 h')) w':=by
 obtain⟨g,cap,rfl⟩:=slots_some h (by have:=at_lt hi;omega)
 have HA:=Lib.hid (at_some h (S.hd i) (hd_ok hL hi).1 (hd_ix hL hi))
 have HS:=Lib.hid (fun wx (hb:Below w.heap.size w wx)=>(show wx.cell? ⟨g,i*10+1,none⟩=some (.int .i64 n.kind) from slot_cell (h.below hb) (at_slot hi) 1 (by omega)))
 have HL:=Lib.hid (fun wx (hb:Below w.heap.size w wx)=>len_any (h.below hb))
 have HC:=Lib.hid (fun wx (hb:Below w.heap.size w wx)=>copied_any (128 - d i) B R S _ _ wx K d (h.below hb) hL hfr hfn i n hi rfl hal (by omega) (by omega))
 have HCl:=Lib.hid (collectW h hL i n hi)
 have hlv:S.live≤S.slots.length:=List.length_filter_le _ _
 have hRl:=h.blk.lt
 have hzR:=h.blk.free
 clear h hi
 generalize hWl:wlk K (128 - d i) i=l at *
 go_enter Tryz.func23,Tryz.ntmps23
 go_wp2_with fail
 refine HA.out.mono ?_
 rintro e w2 ⟨rfl,hb⟩
 have c1:=HS.out w2 hb
 have HC2:=Lib.hid (HCl.out w2 hb)
 have HB:=Lib.hid hb
 have hd1:decide (n.kind=1)=false:=by simp;exact hk
 have hd2:decide ((20000:Int) < (S.live:Int)+(l.length:Int))=false:=by simp;omega
 unfold na
 clear hb HCl HS
 go_wp2_with fail
 refine(walk_any R (S.hd i) w2).mono ?_
 rintro e w3 ⟨rfl,hw3⟩
 rw [hw3]
 have hb23:Below w2.heap.size w2 ((w2.alloc (.cells #[.pointer (some ⟨R,0,none⟩)] 29)).alloc (.cells #[.int .i64 (S.hd i)] 3)):=((Below.refl _ _).alloc (Nat.le_refl _) _).alloc (by simp) _
 have HB3:=Lib.hid (bthen HB.out hb23)
 clear hw3 hb23 c1
 go_wp2_with fail
 refine HC2.out.mono ?_
 rintro e w4 ⟨v,rfl,ho4,hb4⟩
 obtain⟨va,vc,rfl⟩:=own_shapeB ho4
 have HB4:=Lib.hid (bthen HB3.out hb4)
 have HL4:=Lib.hid (HL.out w4 HB4.out)
 have HC4:=Lib.hid (HC.out w4 HB4.out)
 have hsz4:=HB4.out.size
 clear ho4 hb4 HC2 HL HC
 go_wp2_with fail
 refine HL4.out.mono ?_
 rintro e w5 ⟨rfl,hw⟩
 rw [hw]
 clear hw
 go_wp2_with fail
 refine HC4.out.mono ?_
 rintro e w6 ⟨S',sv',fv',K',d',r,rfl,hT,hcp,hc,hsv,hfv,hF⟩
 have HO:=Lib.hid (show CopiedOut B R S (.slice (some ⟨g,0,none⟩) S.slots.length cap) fv K d i K l w (.returned (.int .i64 (S.hd (r i)))) w6 from
  ⟨S',sv',fv',K',d',r,rfl,hT,hcp,(Chg.of_below HB4.out).trans hc (fun _ _ h=>h),hsv.imp id (fun⟨k,e,hk⟩=>⟨k,e,Nat.le_trans HB4.out.size hk⟩),hfv,fun k hk=>(hF k hk).imp id (fun h=>Nat.le_trans HB4.out.size h)⟩)
 clear hT hcp hc hsv hfv hF
 go_wp2_with fail
 go_ret2
 exact⟨_,rfl,HO.out⟩
end Go.Proofs.YtfelmdkeaacfeaaGreatDoor.W
end
